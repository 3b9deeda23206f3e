/- Merged texts: Idx2, Aw16, IdxAll, Opens, Opens2, IP1, BD6, BD10, Deeps, AL7, BE1, BE2, IP2, Opens3, BE3. -/
import Derived.Test.YtoihjobdfjajfaaBw4
import Derived.Deep.OwnRows
import Derived.Laws.OwnMore
import Derived.ProofKit
import Derived.Deep.Strs
import Derived.Lib.SmallJoins
/- Index: Drop, Pick on what lies in memory. -/
namespace Go.Proofs.Ytoihjobdfjajfaa
set_option linter.unusedVariables false
set_option linter.unusedSimpArgs false
open Go.RowKit Go.Maps
attribute [local go_sem ↓] Go.wp_at_zero Go.wp_at_succ

/-- Whether a place may be let go. -/
def dropB (n : Nat) (gone : List Int) (i : Int) : Bool := decide (0 ≤ i) && (decide (i < n) && !decide (i ∈ gone))
set_option maxRecDepth 100000 in
set_option maxHeartbeats 800000 in
theorem drop55 {xb mb : Nat} {v : Value} {ks : List Key} {gone : List Int} {w : World} (h : IdxIn xb mb v ks gone w) (i : Int) (hi : I64 i) (hn : gone.length ≤ 100000) :
    Calls Try.prog 55 #[.pointer (some ⟨xb, 0, none⟩), .int .i64 i] w fun e w' => e = .returned (.bool (dropB ks.length gone i)) ∧ IdxIn xb mb v ks (if dropB ks.length gone i then gone ++ [i] else gone) w' ∧ Turned (MineX xb mb v) w w' := by
  obtain ⟨a, cap, rfl⟩ := h.row.shape
  obtain ⟨c0, c1, f0⟩ := cells2 h.blk
  have hm := (Row.max h.row)
  have hm1 := hm.1
  have hm2 := hm.2
  have hkey := key3 hi
  have hlk : (Instr.lookup 145 (.map (some mb)) (.int .i64 i) false).run Try.prog w = .ok (.bool (decide (i ∈ gone))) w := by
    rw [h.map.look law3 Try.underlying145 (zero4 _) hkey, inSet_get]
  have H := Lib.hid h
  clear h hm
  by_cases h0 : i < 0
  · have HR : Hid (dropB ks.length gone i = false) := by show _ = _; unfold dropB; simp; omega
    have hd : decide (i < 0) = true := by simpa using h0
    clear h0
    rw [HR.out, if_neg (by decide)]
    go_enter Try.func55, Try.ntmps55
    go_wp2_with fail
    go_ret
    exact ⟨rfl, H.out, Turned.refl _ _⟩
  · have hd : decide (i < 0) = false := by simpa using h0
    by_cases h1 : (ks.length : Int) ≤ i
    · have HR : Hid (dropB ks.length gone i = false) := by show _ = _; unfold dropB; simp; omega
      have hd1 : decide ((ks.length : Int) ≤ i) = true := by simpa using h1
      clear h0 h1
      rw [HR.out, if_neg (by decide)]
      go_enter Try.func55, Try.ntmps55
      go_wp2_with fail
      go_ret
      exact ⟨rfl, H.out, Turned.refl _ _⟩
    · have hd1 : decide ((ks.length : Int) ≤ i) = false := by simpa using h1
      by_cases h2 : i ∈ gone
      · have HR : Hid (dropB ks.length gone i = false) := by show _ = _; unfold dropB; simp [h2]
        have hd2 : decide (i ∈ gone) = true := by simpa using h2
        rw [hd2] at hlk
        clear h0 h1 h2 hd2
        rw [HR.out, if_neg (by decide)]
        go_enter Try.func55, Try.ntmps55
        go_wp2_with fail
        go_ret
        exact ⟨rfl, H.out, Turned.refl _ _⟩
      · have HR : Hid (dropB ks.length gone i = true) := by show _ = _; unfold dropB; simp [h2]; omega
        have hd2 : decide (i ∈ gone) = false := by simpa using h2
        rw [hd2] at hlk
        have HM := Lib.hid h2
        clear h0 h1 h2 hd2
        rw [HR.out, if_pos rfl]
        go_enter Try.func55, Try.ntmps55
        go_wp2_with (first
          | (at_mapUpdate; refine wpList_put rfl _ _ _ 145 rfl law3 Try.underlying145 rfl H.out.map (by unfold maxLen; omega) rfl rfl hkey trivial ?_; intro w1 hmap1 T1; have HM1 := Lib.hid hmap1; clear hmap1))
        go_ret
        have hx := H.out
        refine ⟨rfl, ⟨?_, ?_, ?_, hx.apart⟩, T1.mono (fun j _ e => .inr (.inl e))⟩
        · exact (T1.block xb (hx.lt xb (.inl rfl)) (fun e => hx.ne.1 e.symm)).trans hx.blk
        · exact hx.row.turned T1 (fun j e1 e2 => hx.ne.2 (by rw [e1, e2]))
        · have hm : IMap Try.prog 3 w1 mb (if (inSet gone i).isSome then gone.length else gone.length + 1) (upd (inSet gone) i (.bool true)) := HM1.out
          have hf : inSet gone i = none := by unfold inSet; rw [if_neg HM.out]
          rw [hf, inSet_snoc] at hm
          simpa using hm

/-- What of the places that may fit is there. -/
def thereB (gone : List Int) (l : List Int) : List Int := l.filter fun i => !decide (i ∈ gone)
def PickXR (w0 : World) (gone ps : List Int) (g : Nat) (v i : Value) (wr : World) : Prop :=
  ∃ j : Nat, Hid (j + g = ps.length) ∧ j ≤ ps.length ∧ i = .int .i64 j ∧ Row wr 3 1 v (thereB gone (ps.take j)).length ((thereB gone (ps.take j)).map (Value.int .i64)) ∧ (∀ b, v.ownBlock = some b → w0.heap.size ≤ b) ∧ Turned (fun _ => False) w0 wr
theorem pickB_mem {k : Key} {l : List Key} {i : Nat} {p : Int} (h : p ∈ pickB k l i) : (i : Int) ≤ p ∧ p < ((i + l.length : Nat) : Int) := by
  induction l generalizing i with
  | nil => simp [pickB] at h
  | cons x l ih =>
    simp only [pickB] at h
    have hr : p ∈ pickB k l (i + 1) → (i : Int) ≤ p ∧ p < ((i + (x :: l).length : Nat) : Int) := fun h' => by
      have := ih h'
      simp only [List.length_cons]
      omega
    split at h
    · rcases List.mem_cons.1 h with rfl | h
      · simp only [List.length_cons]; omega
      · exact hr h
    · exact hr h
theorem Row.ksl {w : World} {a : Option Addr} {c : Nat} {ks : List Key} (h : Row w 35 4 (.slice a ks.length c) ks.length (ks.flatMap Key.cells)) : KSl w a c ks := by
  have hm := h.max
  rcases h.2 with ⟨e, e0⟩ | ⟨g, cap, cur, e, hg, _⟩
  · injection e with e1 _ e2
    exact ⟨fun _ => ⟨e0, e2⟩, fun hp => by omega, hm.1, hm.2⟩
  · injection e with e1 _ e2
    subst e1
    refine ⟨(fun e => by cases e), fun hp => ⟨g, 0, rfl, fun j u hu => ?_⟩, hm.1, hm.2⟩
    rw [Nat.zero_add]
    exact h.cells rfl j u hu

set_option maxRecDepth 100000 in
set_option maxHeartbeats 3200000 in
theorem pickX59 {xb mb : Nat} {v : Value} {ks : List Key} {gone : List Int} {w : World} (h : IdxIn xb mb v ks gone w) (k : Key) (hn : ks.length ≤ 60000) :
    Calls Try.prog 59 #[.pointer (some ⟨xb, 0, none⟩), k.val] w fun e w' => ∃ r, e = .returned r ∧ Row w' 3 1 r (thereB gone (pickB k ks 0)).length ((thereB gone (pickB k ks 0)).map (Value.int .i64)) ∧ (∀ b, r.ownBlock = some b → w.heap.size ≤ b) ∧ Turned (fun _ => False) w w' := by
  obtain ⟨a, cap, rfl⟩ := h.row.shape
  have hlx := h.lt xb (.inl rfl)
  obtain ⟨ps, hps⟩ : ∃ ps, ps = pickB k ks 0 := ⟨_, rfl⟩
  have hpl := pickB_le k ks 0
  have hpm : ∀ (j : Nat) p, ps[j]? = some p → I64 p := fun j p hj => by
    have h1 := pickB_mem (hps ▸ (List.mem_of_getElem? hj))
    have : ks.length ≤ 60000 := hn
    unfold I64
    omega
  have HPM := Lib.hid hpm
  have HPS := Lib.hid hps
  rw [← hps] at hpl ⊢
  clear hpm
  have T1 := (Turned.refl (fun _ => False) w).alloc (.cells #[.int .i64 k.kind, .int .i64 k.n, .string k.name, .int .i64 k.arity] 35)
  have hbx := fun W (h : Turned (fun _ => False) (w.alloc (.cells #[.int .i64 k.kind, .int .i64 k.n, .string k.name, .int .i64 k.arity] 35)) W) => (box4 h)
  have H := Lib.hid h
  have HT := Lib.hid T1
  have HB := Lib.hid hbx
  clear h T1 hbx
  unfold Key.val
  go_enter Try.func59, Try.ntmps59
  go_wp2_with fail
  revert HT HB
  generalize w.alloc (.cells #[.int .i64 k.kind, .int .i64 k.n, .string k.name, .int .i64 k.arity] 35) = w1
  intro HT HB
  have hkeep : ∀ W, Turned (fun _ => False) w1 W → Turned (fun _ => False) w1 W ∧ W.cell? ⟨xb, 0, none⟩ = some (.slice a ks.length cap) ∧ W.cell? ⟨w.heap.size, 0, none⟩ = some (.int .i64 k.kind) ∧ W.cell? ⟨w.heap.size, 1, none⟩ = some (.int .i64 k.n) ∧ W.cell? ⟨w.heap.size, 2, none⟩ = some (.string k.name) ∧ W.cell? ⟨w.heap.size, 3, none⟩ = some (.int .i64 k.arity) := fun W hW => by
    obtain ⟨q0, _, _⟩ := cells2 (H.out.turned0 (HT.out.trans hW)).blk
    obtain ⟨b0, b1, b2, b3, _⟩ := cells4 (HB.out W hW).1
    exact ⟨hW, q0, b0, b1, b2, b3⟩
  have HKP := Lib.hid hkeep
  have hpick := fun W (hW : Turned (fun _ => False) w1 W) => pick60 k (Row.ksl (H.out.turned0 (HT.out.trans hW)).row) (by omega)
  unfold Key.val at hpick
  rw [← hps] at hpick
  have HPK := Lib.hid hpick
  clear hkeep hpick hps
  go_region_held3 (fun W => Turned (fun _ => False) w1 W ∧ W.cell? ⟨xb, 0, none⟩ = some (.slice a ks.length cap) ∧ W.cell? ⟨w.heap.size, 0, none⟩ = some (.int .i64 k.kind) ∧ W.cell? ⟨w.heap.size, 1, none⟩ = some (.int .i64 k.n) ∧ W.cell? ⟨w.heap.size, 2, none⟩ = some (.string k.name) ∧ W.cell? ⟨w.heap.size, 3, none⟩ = some (.int .i64 k.arity))
    (first
      | exact HKP.out _ (Turned.refl _ _).drew
      | exact HKP.out _ ((Turned.refl _ _).drew.trans T2))
    ((go_at_call 60; (with_reducible refine (HPK.out _ (Turned.refl _ _).drew).mono ?_); rintro e w2 ⟨r2, rfl, hr2, hn2, T2⟩; obtain ⟨a2, c2, rfl⟩ := hr2.shape))
  go_ways

  have HR2 := Lib.hid hr2
  have Tww := Lib.hid (HT.out.trans ((Turned.refl _ _).drew.trans T2))
  have HX2 := Lib.hid (H.out.turned0 Tww.out)
  have hcap2 := hr2.max
  clear hr2
  clear HB HKP HPK HT T2
  have hs2 : w.heap.size ≤ w2.heap.size := Tww.out.size
  go_wp2_with fail
  go_loopg [5, 15] ps.length (fun g v i wr => PickXR w2 gone ps g v i wr)
  case atStart => exact ⟨0, Nat.zero_add _, Nat.zero_le _, rfl, Row.nil _ _ _, fun b hb => by simp [Value.ownBlock] at hb, Turned.refl _ _⟩
  case round =>
    obtain ⟨j, HG, hj, rfl, hrow, hown, Tr⟩ := hrel
    obtain ⟨wo, rfl⟩ : ∃ wo : World, wo = wr := ⟨_, rfl⟩
    obtain ⟨v3, cv, rfl⟩ := hrow.shape
    have hpl2 : (thereB gone (ps.take j)).length ≤ 65536 := by
      have := List.length_filter_le (fun i => !decide (i ∈ gone)) (ps.take j)
      unfold thereB
      rw [List.length_take] at this
      omega
    have HROW := Lib.hid hrow
    clear hrow
    by_cases hjl : j < ps.length
    · have hx : ps[j]? = some ps[j] := List.getElem?_eq_getElem hjl
      obtain ⟨p, hpe⟩ : ∃ p, p = ps[j] := ⟨_, rfl⟩
      rw [← hpe] at hx
      clear hpe
      have hkey := key3 (HPM.out j p hx)
      obtain ⟨g2, cc2, he⟩ := HR2.out.shape_pos (by omega)
      injection he with he1 _ he2
      subst he1 he2
      have hcell := (HR2.out.turned0 Tr).cells rfl j _ (by rw [List.getElem?_map, hx]; rfl)
      have hxo := HX2.out.turned0 Tr
      obtain ⟨q0, q1, _⟩ := cells2 hxo.blk
      have hlk : (Instr.lookup 145 (.map (some mb)) (.int .i64 p) false).run Try.prog wo = .ok (.bool (decide (p ∈ gone))) wo := by
        rw [hxo.map.look law3 Try.underlying145 (zero4 _) hkey, inSet_get]
      have hts : thereB gone (ps.take (j + 1)) = thereB gone (ps.take j) ++ (if p ∈ gone then [] else [p]) := by
        rw [take_snoc' _ _ _ hx]
        unfold thereB
        rw [List.filter_append]
        by_cases h : p ∈ gone <;> simp [h]
      have HTS := Lib.hid hts
      clear hts hxo hx
      by_cases hm : p ∈ gone
      · have hd : decide (p ∈ gone) = true := by simpa using hm
        rw [hd] at hlk
        have HM := Lib.hid hm
        clear hm hd
        go_wp2_with fail
        go_roundg (gk - 1)
        case measure => have := HG.out; omega
        case rel =>
          refine ⟨j + 1, show _ = _ by have := HG.out; omega, by omega, by go_num, ?_, hown, Tr⟩
          rw [HTS.out, if_pos HM.out, List.append_nil]
          exact HROW.out
      · have hd : decide (p ∈ gone) = false := by simpa using hm
        rw [hd] at hlk
        obtain ⟨i0, hi0, hz0, hz1, hz2⟩ := info_parts infoN
        have HM := Lib.hid hm
        clear hm hd
        go_wp2_with (first
          | (at_builtin; refine append_some _ rfl _ _ 61 rfl 3 i0 (.int .i64 0) 1 8 Try.underlying61 hi0 hz0 hz1 hz2 rfl (by decide) _ _ _ rfl (HROW.out.alloc _) ⟨wo.heap.size, 0, none⟩ 1 1 [.int .i64 p] rfl rfl (cell_one_new _ _ _) (by simp [Value.oneCell']) (by omega) (by unfold maxLen; omega) (by omega) ?_; intro g6 cap6 w6 hown6 T6 hloc6))
        go_roundg (gk - 1)
        case measure => have := HG.out; omega
        case rel =>
          have hs0 := Tr.size
          refine ⟨j + 1, show _ = _ by have := HG.out; omega, by omega, by go_num, ?_, fun b' hb' => ?_, ?_⟩
          · rw [HTS.out, if_neg HM.out, List.length_append, List.length_singleton, List.map_append]
            exact hown6
          · rcases hloc6 with e | e
            · exact hown b' (e.symm.trans hb')
            · simp [Value.ownBlock] at hb'; simp at e; omega
          · refine (Tr.trans ((Turned.refl _ wo).alloc _)).step T6 (fun i hi h3 => ?_)
            have := hown i h3
            omega
    · have hje : j = ps.length := by omega
      go_wp2_with fail
      go_ret
      have hr := HROW.out
      rw [hje, List.take_length] at hr
      refine ⟨_, rfl, ?_, fun b hb => ?_, Tww.out.trans Tr⟩
      · rw [hje, List.take_length]; exact hr
      · have := hown b hb; omega
end Go.Proofs.Ytoihjobdfjajfaa

/- ints; sizarlaw16's awake. -/
namespace Go.Proofs.Ytoihjobdfjajfaa
set_option linter.unusedVariables false
set_option linter.unusedSimpArgs false
open Go.RowKit
attribute [local go_sem ↓] Go.wp_at_zero Go.wp_at_succ

set_option maxHeartbeats 800000 in
theorem ints58 {w : World} {v1 v2 : Value} {xs ys : List Int} (h1 : Row w 3 1 v1 xs.length (xs.map (Value.int .i64))) (h2 : Row w 3 1 v2 ys.length (ys.map (Value.int .i64))) :
    Calls Try.prog 58 #[v1, v2] w fun e w' => e = .returned (.bool (decide (xs = ys))) ∧ Turned (fun _ => False) w w' := by
  obtain ⟨a1, c1, rfl⟩ := h1.shape
  obtain ⟨a2, c2, rfl⟩ := h2.shape
  obtain ⟨m1, m2⟩ := h1.max
  obtain ⟨m3, m4⟩ := h2.max
  by_cases hl : xs.length = ys.length
  · have hlb : ((xs.length : Int) != (ys.length : Int)) = false := by simp; omega
    have HL := Lib.hid hl
    have hl1 : xs.length ≤ ys.length := by omega
    have hl2 : ys.length ≤ xs.length := by omega
    clear hl
    have H1 := Lib.hid h1
    have H2 := Lib.hid h2
    clear h1 h2
    go_enter Try.func58, Try.ntmps58
    go_wp2_with fail
    go_loopg [5] xs.length (fun g i wr => ∃ j : Nat, Hid (j + g = xs.length) ∧ j ≤ xs.length ∧ i = .int .i64 j ∧ Hid (xs.take j = ys.take j) ∧ Turned (fun _ => False) w wr)
    case atStart => exact ⟨0, Nat.zero_add _, Nat.zero_le _, rfl, rfl, Turned.refl _ _⟩
    case round =>
      obtain ⟨j, HG, hj, rfl, HE, Tr⟩ := hrel
      by_cases hjl : j < xs.length
      · have hx : xs[j]? = some xs[j] := List.getElem?_eq_getElem hjl
        have hy : ys[j]? = some (ys[j]'(by omega)) := List.getElem?_eq_getElem (by omega)
        obtain ⟨x, hxe⟩ : ∃ x, x = xs[j] := ⟨_, rfl⟩
        obtain ⟨y, hye⟩ : ∃ y, y = ys[j]'(by omega) := ⟨_, rfl⟩
        rw [← hxe] at hx
        rw [← hye] at hy
        obtain ⟨g1, rfl⟩ := H1.out.addr_pos (by omega)
        obtain ⟨g2, rfl⟩ := H2.out.addr_pos (by omega)
        have k1 := (H1.out.turned0 Tr).int_at hx
        have k2 := (H2.out.turned0 Tr).int_at hy
        have HX := Lib.hid hx
        have HY := Lib.hid hy
        clear hxe hye hx hy
        have z1 : (0 : Int) ≤ (j : Int) := by omega
        have z2 : (j : Int) < (ys.length : Int) := by omega
        by_cases hxy : x = y
        · subst hxy
          have hne : (x != x) = false := by simp
          go_wp2_with fail
          go_quiet (fail)
          go_wp2_with fail
          go_roundg (gk - 1)
          case measure => have := HG.out; omega
          case rel =>
            refine ⟨j + 1, show _ = _ by have := HG.out; omega, by omega, by go_num, ?_, Tr.trans ((Turned.refl _ _).drewN _)⟩
            show _ = _
            rw [take_snoc' _ _ _ HX.out, take_snoc' _ _ _ HY.out, HE.out]
        · have hne : (x != y) = true := by simp [hxy]
          have HN := Lib.hid hxy
          clear hxy
          go_wp2_with fail
          go_quiet (fail)
          go_wp2_with fail
          go_ret
          refine ⟨ret_bool ?_, Tr.trans ((Turned.refl _ _).drewN _)⟩
          symm
          rw [decide_eq_false_iff_not]
          intro e
          have hx := HX.out
          rw [e, HY.out] at hx
          injection hx with hx
          exact HN.out hx.symm
      · go_wp2_with fail
        go_ret
        refine ⟨ret_bool ?_, Tr⟩
        symm
        rw [decide_eq_true_eq]
        have h := HE.out
        rwa [List.take_of_length_le (by omega), List.take_of_length_le (by omega)] at h
  · have hlb : ((xs.length : Int) != (ys.length : Int)) = true := by simp; omega
    have HL := Lib.hid hl
    clear hl h1 h2
    go_enter Try.func58, Try.ntmps58
    go_wp2_with fail
    go_ret
    refine ⟨ret_bool ?_, Turned.refl _ _⟩
    symm
    rw [decide_eq_false_iff_not]
    intro e
    exact HL.out (by rw [e])

def kA : Key := ⟨2, 0, ⟨#[97]⟩, 0⟩
def kB : Key := ⟨2, 0, ⟨#[98]⟩, 0⟩
theorem pick_aw : pickB kA [Key.zero, kA, kB] 0 = [0, 1] := by decide
theorem keyOf_aw (a5 : Option Addr) (c5 : Nat) : keyOf (α := Option Addr × Nat) (.mk 2 0 ⟨#[112]⟩ (a5, c5) [leaf 2 0 ⟨#[97]⟩]) = kA := by kernel_rfl
theorem ofAw {w : World} {a5 : Option Addr} {c5 : Nat} (h : LT.In (fun _ => True) w (.mk 2 0 ⟨#[112]⟩ (a5, c5) [leaf 2 0 ⟨#[97]⟩])) :
    Calls Try.prog 42 #[.agg #[.int .i64 2, .int .i64 0, .string ⟨#[112]⟩, .slice a5 1 c5]] w fun e w' => e = .returned (.agg #[.int .i64 2, .int .i64 0, .string ⟨#[97]⟩, .int .i64 0]) ∧ Turned (fun _ => False) w w' := by
  refine (of42 (t := .mk 2 0 ⟨#[112]⟩ (a5, c5) [leaf 2 0 ⟨#[97]⟩]) h (slim_mk (by simp) (fun x hx => by rw [List.mem_singleton.1 hx]; intro y hy; simp [leaf, Tm.flat, Tm.flats] at hy; subst hy; simp [Tm.args]))).mono ?_
  rintro e w' ⟨rfl, ht⟩
  rw [keyOf_aw]
  exact ⟨rfl, ht⟩
set_option maxRecDepth 100000 in
set_option maxHeartbeats 3200000 in
theorem awake40 (w : World) : Calls Try.prog 40 #[] w fun e w' => e = .returned (.bool true) ∧ Turned (fun _ => False) w w' := by
  have hk : KSl (w.alloc (.cells #[.int .i64 0, .int .i64 0, .string ⟨#[]⟩, .int .i64 0, .int .i64 2, .int .i64 0, .string ⟨#[97]⟩, .int .i64 0, .int .i64 2, .int .i64 0, .string ⟨#[98]⟩, .int .i64 0] 35)) (some ⟨w.heap.size, 0, none⟩) 3 [Key.zero, kA, kB] := by
    refine ⟨(fun e => by cases e), fun _ => ⟨_, _, rfl, fun j u hu => ?_⟩, Nat.le_refl _, by simp⟩
    rw [Nat.zero_add, boxed]
    have : (#[.int .i64 0, .int .i64 0, .string ⟨#[]⟩, .int .i64 0, .int .i64 2, .int .i64 0, .string ⟨#[97]⟩, .int .i64 0, .int .i64 2, .int .i64 0, .string ⟨#[98]⟩, .int .i64 0] : Array Value)[j]? = ([Key.zero, kA, kB].flatMap Key.cells)[j]? := by
      rw [← Array.getElem?_toList]; rfl
    rw [this, hu]
  have HK := Lib.hid hk
  have T0 := (Turned.refl (fun _ => False) w).alloc (.cells #[.int .i64 0, .int .i64 0, .string ⟨#[]⟩, .int .i64 0, .int .i64 2, .int .i64 0, .string ⟨#[97]⟩, .int .i64 0, .int .i64 2, .int .i64 0, .string ⟨#[98]⟩, .int .i64 0] 35)
  have HT0 := Lib.hid T0
  clear hk T0
  go_enter Try.func40, Try.ntmps40
  go_wp2_with fail
  revert HK HT0
  generalize w.alloc (.cells #[.int .i64 0, .int .i64 0, .string ⟨#[]⟩, .int .i64 0, .int .i64 2, .int .i64 0, .string ⟨#[97]⟩, .int .i64 0, .int .i64 2, .int .i64 0, .string ⟨#[98]⟩, .int .i64 0] 35) = w1
  intro HK HT0
  have hkeep : ∀ W, Turned (fun _ => False) w1 W → (Turned (fun _ => False) w1 W ∧ W.cell? ⟨w.heap.size, 4, none⟩ = some (.int .i64 2) ∧ W.cell? ⟨w.heap.size, 5, none⟩ = some (.int .i64 0) ∧ W.cell? ⟨w.heap.size, 6, none⟩ = some (.string ⟨#[97]⟩) ∧ W.cell? ⟨w.heap.size, 7, none⟩ = some (.int .i64 0)) := by
    intro W h
    have := (HK.out.turned0 h).at (i := 1) (x := kA) rfl
    simp only [Nat.zero_add, Nat.one_mul, Nat.reduceAdd] at this
    exact ⟨h, this⟩
  have HKP := Lib.hid hkeep
  clear hkeep
  have hq : ∀ W, (binOp .eql 35 (.agg #[.int .i64 2, .int .i64 0, .string ⟨#[97]⟩, .int .i64 0]) (.agg #[.int .i64 2, .int .i64 0, .string ⟨#[97]⟩, .int .i64 0])).run Try.prog W = .ok (.bool true) W := fun W => by have := key_eql kA kA W; simpa [kA] using this
  go_region_held3 (fun W => Turned (fun _ => False) w1 W ∧ W.cell? ⟨w.heap.size, 4, none⟩ = some (.int .i64 2) ∧ W.cell? ⟨w.heap.size, 5, none⟩ = some (.int .i64 0) ∧ W.cell? ⟨w.heap.size, 6, none⟩ = some (.string ⟨#[97]⟩) ∧ W.cell? ⟨w.heap.size, 7, none⟩ = some (.int .i64 0))
    (first
      | exact HKP.out _ (Turned.refl _ _).drew
      | exact HKP.out _ ((Turned.refl _ _).drew.alloc _)
      | exact HKP.out _ ((show Turned (fun _ => False) w1 _ ∧ _ from by assumption).1.alloc _)
      | exact HKP.out _ (Turned.trans (show Turned (fun _ => False) w1 _ ∧ _ from by assumption).1 T6)
      | exact HKP.out _ (Turned.trans (show Turned (fun _ => False) w1 _ ∧ _ from by assumption).1 T5)
      | exact HKP.out _ (Turned.trans (show Turned (fun _ => False) w1 _ ∧ _ from by assumption).1 T4)
      | exact HKP.out _ (Turned.trans (show Turned (fun _ => False) w1 _ ∧ _ from by assumption).1 T3)
      | exact HKP.out _ (Turned.trans (show Turned (fun _ => False) w1 _ ∧ _ from by assumption).1 T2))
    (first
      | (go_at_call 60; refine (pick60 (ks := [Key.zero, kA, kB]) kA (HK.out.turned0 (by first | exact (Turned.refl _ _).drew | exact (Turned.refl _ _).drew.alloc _)) (by decide)).mono ?_; rintro e w2 ⟨v2, rfl, r2, n2, T2⟩)
      | (go_at_call 58; refine (ints58 (xs := [0, 1]) (ys := [0, 1]) (show Row _ 3 1 v2 2 [.int .i64 0, .int .i64 1] from by first | exact r2.alloc _ | exact r2) (show Row _ 3 1 _ 2 [.int .i64 0, .int .i64 1] from by first | exact Row.made _ 3 1 #[.int .i64 0, .int .i64 1] 2 rfl (by decide) | exact (Row.made w1.drew 3 1 #[.int .i64 0, .int .i64 1] 2 rfl (by decide)).turned0 T2)).mono ?_; rintro e w3 ⟨rfl, T3⟩)
      | (go_at_call 63; refine (atomV ⟨#[97]⟩ (by unfold maxLen; decide) _).mono ?_; rintro e w4 ⟨rfl, i4, T4⟩)
      | (go_at_call 37; refine (compV ⟨#[112]⟩ (by unfold maxLen; decide) 1 (by decide) rfl (sl_made (l := [leaf 2 0 ⟨#[97]⟩]) ⟨i4, trivial⟩ 1 (by decide) rfl _ rfl)).mono ?_; rintro e w5 ⟨a5, c5, rfl, i5, T5⟩)
      | (go_at_call 42; refine (ofAw i5).mono ?_; rintro e w6 ⟨rfl, T6⟩))
  all_goals
    go_wp2_with fail
    go_ret
    exact ⟨rfl, HT0.out.trans (show Turned (fun _ => False) w1 w6 ∧ _ from by assumption).1⟩
end Go.Proofs.Ytoihjobdfjajfaa

/- IndexAll's walk. -/
namespace Go.Proofs.Ytoihjobdfjajfaa
set_option linter.unusedVariables false
set_option linter.unusedSimpArgs false
open Go.RowKit Go.Maps
attribute [local go_sem ↓] Go.wp_at_zero Go.wp_at_succ

/-- A slice of ints that came in from anywhere. -/
structure ISl (w : World) (a : Option Addr) (c : Nat) (xs : List Int) : Prop where
  none_ : a = none → xs.length = 0 ∧ c = 0
  lies : 0 < xs.length → ∃ b o, a = some ⟨b, o, none⟩ ∧ ∀ (j : Nat) x, xs[j]? = some x → w.cell? ⟨b, o + j, none⟩ = some (.int .i64 x)
  cap : xs.length ≤ c
  max : c ≤ 9223372036854775807
  wf : ∀ x ∈ xs, I64 x
theorem ISl.turned0 {w w' : World} {a : Option Addr} {c : Nat} {xs : List Int} (h : ISl w a c xs) (ht : Turned (fun _ => False) w w') : ISl w' a c xs := by
  refine ⟨h.none_, fun hp => ?_, h.cap, h.max, h.wf⟩
  obtain ⟨b, o, he, hc⟩ := h.lies hp
  exact ⟨b, o, he, fun j u hu => ht.cell (hc j u hu) (fun f => f)⟩
theorem ISl.at {w : World} {b o c : Nat} {xs : List Int} (h : ISl w (some ⟨b, o, none⟩) c xs) {i : Nat} {x : Int} (hi : xs[i]? = some x) : w.cell? ⟨b, o + i, none⟩ = some (.int .i64 x) := by
  obtain ⟨b', o', e, hc⟩ := h.lies (by have := (List.getElem?_eq_some_iff.1 hi).1; omega)
  injection e with e
  injection e with e1 e2
  subst e1 e2
  exact hc _ _ hi

/-- A row of bools of the call's own. -/
def BIn (lb n : Nat) (f : Nat → Bool) (w : World) : Prop := w.heap[lb]? = some (.cells ((List.range n).map fun i => Value.bool (f i)).toArray 4 (0, 0))
section
variable {lb n : Nat} {f : Nat → Bool} {w w' : World}
theorem BIn.cell (h : BIn lb n f w) {j : Nat} (hj : j < n) : w.cell? ⟨lb, j, none⟩ = some (.bool (f j)) := by
  have c := cell_of_row w lb j _ 4 (0, 0) h
  rw [c]
  simp [hj]
theorem BIn.free (h : BIn lb n f w) (j : Nat) : w.frozen? ⟨lb, j, none⟩ = false := frozen_of_row w lb j _ 4 h
theorem BIn.congr (h : BIn lb n f w) {g : Nat → Bool} (e : ∀ i, i < n → f i = g i) : BIn lb n g w := by
  unfold BIn at h ⊢
  rw [h]
  congr 2
  congr 1
  exact List.map_congr_left fun i hi => by rw [e i (List.mem_range.1 hi)]
theorem BIn.turned {S : Nat → Prop} (h : BIn lb n f w) (ht : Turned S w w') (hS : ¬ S lb) : BIn lb n f w' := (ht.block lb (Array.getElem?_eq_some_iff.1 h).1 hS).trans h
theorem BIn.lt (h : BIn lb n f w) : lb < w.heap.size := (Array.getElem?_eq_some_iff.1 h).1
theorem BIn.set (h : BIn lb n f w) {j : Nat} (hj : j < n) (b : Bool) : BIn lb n (fun i => if i = j then b else f i) (w.setCell ⟨lb, j, none⟩ (.bool b)) := by
  have c := heap_setCell_same w lb j _ 4 (.bool b) h
  unfold BIn
  rw [c]
  congr 2
  apply Array.ext
  · simp
  · intro i h1 h2
    by_cases e : i = j
    · subst e; simp
    · simp [List.getElem_set, e, fun e' : j = i => e e'.symm]
      intro e'; exact absurd e'.symm e
theorem BIn.made (w : World) (n : Nat) : BIn w.heap.size n (fun _ => false) (w.alloc (.cells (madeCells #[.bool false] n) 4)) := by
  have := heap_alloc_new w (.cells (madeCells #[.bool false] n) 4)
  unfold BIn
  rw [this]
  congr 2
  apply Array.toList_inj.1
  rw [toList_madeCells_one, List.map_const', List.length_range]
end
/-- What lies in memory while IndexAll runs. -/
structure AllIn (w0 : World) (xb mb lb n : Nat) (v : Value) (ks : List Key) (gone : List Int) (f : Nat → Bool) (w : World) : Prop where
  idx : IdxIn xb mb v ks gone w
  bools : BIn lb n f w
  apart : ∀ k, MineX xb mb v k → k ≠ lb ∧ w0.heap.size ≤ k
  lbge : w0.heap.size ≤ lb
  turned : Turned (fun _ => False) w0 w
section
variable {w0 : World} {xb mb lb n : Nat} {v v' : Value} {ks ks' : List Key} {gone gone' : List Int} {f : Nat → Bool} {w w' : World}
theorem AllIn.turned0 (h : AllIn w0 xb mb lb n v ks gone f w) (ht : Turned (fun _ => False) w w') : AllIn w0 xb mb lb n v ks gone f w' :=
  ⟨h.idx.turned0 ht, h.bools.turned ht (fun f => f), h.apart, h.lbge, h.turned.trans ht⟩
theorem AllIn.moved (h : AllIn w0 xb mb lb n v ks gone f w) (hi : IdxIn xb mb v' ks' gone' w') (ht : Turned (MineX xb mb v) w w') (hv : v'.ownBlock = v.ownBlock ∨ ∃ g, v'.ownBlock = some g ∧ w.heap.size ≤ g) : AllIn w0 xb mb lb n v' ks' gone' f w' := by
  refine ⟨hi, h.bools.turned ht (fun m => (h.apart _ m).1 rfl), fun k hk => ?_, h.lbge, h.turned.step ht (fun i hi hm => by have := (h.apart _ hm).2; omega)⟩
  rcases hk with e | e | e
  · exact h.apart k (.inl e)
  · exact h.apart k (.inr (.inl e))
  · rcases hv with h1 | ⟨g, h1, h2⟩
    · exact h.apart k (.inr (.inr (by rw [← h1]; exact e)))
    · rw [h1] at e
      injection e with e
      subst e
      have := h.bools.lt
      have := h.turned.size
      omega
theorem AllIn.store (h : AllIn w0 xb mb lb n v ks gone f w) {j : Nat} (hj : j < n) (b : Bool) : AllIn w0 xb mb lb n v ks gone (fun i => if i = j then b else f i) (w.setCell ⟨lb, j, none⟩ (.bool b)) :=
  ⟨h.idx.turned ((Turned.refl (· = lb) w).setCell (.inr rfl) _) (fun k _ e hm => (h.apart k hm).1 e), h.bools.set hj b, h.apart, h.lbge, h.turned.setCell (.inl h.lbge) _⟩
theorem AllIn.congr (h : AllIn w0 xb mb lb n v ks gone f w) {g : Nat → Bool} (e : ∀ i, i < n → f i = g i) : AllIn w0 xb mb lb n v ks gone g w := ⟨h.idx, h.bools.congr e, h.apart, h.lbge, h.turned⟩
end

/-- What is let go by a list of drops. -/
def goneB (n : Nat) : List Int → List Int → List Int
  | g, [] => g
  | g, d :: l => goneB n (if dropB n g d then g ++ [d] else g) l
theorem goneB_snoc (n : Nat) (g l : List Int) (d : Int) : goneB n g (l ++ [d]) = (if dropB n (goneB n g l) d then goneB n g l ++ [d] else goneB n g l) := by
  induction l generalizing g with
  | nil => rfl
  | cons x l ih => simp only [List.cons_append, goneB]; exact ih _
theorem goneB_len (n : Nat) (g l : List Int) : (goneB n g l).length ≤ g.length + l.length := by
  induction l generalizing g with
  | nil => simp [goneB]
  | cons x l ih =>
    simp only [goneB, List.length_cons]
    have := ih (if dropB n g x then g ++ [x] else g)
    cases hd : dropB n g x with
    | true =>
      rw [hd] at this
      simp only [if_true, List.length_append, List.length_singleton] at this ⊢
      omega
    | false =>
      rw [hd] at this
      simp only [Bool.false_eq_true, if_false] at this ⊢
      omega

def idxs (j : Nat) : List Int := (List.range j).map fun i : Nat => (i : Int)
theorem idxs_snoc (j : Nat) : idxs (j + 1) = idxs j ++ [(j : Int)] := by unfold idxs; rw [List.range_succ, List.map_append]; rfl
theorem mayB_zero (x : Key) : mayB x Key.zero = true := by unfold mayB; simp [Key.zero]
theorem mayB_self (x : Key) : mayB x x = true := by unfold mayB; simp
theorem pickB_zero (ks : List Key) : pickB Key.zero ks 0 = idxs ks.length := by
  have : ∀ (l : List Key) i, pickB Key.zero l i = (List.range l.length).map fun j => ((i + j : Nat) : Int) := by
    intro l
    induction l with
    | nil => intro i; rfl
    | cons x l ih =>
      intro i
      simp only [pickB, mayB_zero, if_true, ih, List.length_cons, List.range_succ_eq_map, List.map_cons, List.map_map]
      congr 1
      apply List.map_congr_left
      intro a _
      simp
      omega
  rw [this]
  simp [idxs]
theorem pickB_at {k x : Key} {l : List Key} {i j : Nat} (h : l[j]? = some x) : ((i + j : Nat) : Int) ∈ pickB k l i ↔ mayB x k = true := by
  induction l generalizing i j with
  | nil => simp at h
  | cons y l ih =>
    simp only [pickB]
    cases j with
    | zero =>
      simp at h
      subst h
      have hno : ((i : Nat) : Int) ∉ pickB k l (i + 1) := fun hm => by have := (pickB_mem hm).1; omega
      cases hm : mayB y k with
      | true => simp
      | false => simpa using hno
    | succ j =>
      simp at h
      have := ih (i := i + 1) h
      rw [show i + 1 + j = i + (j + 1) by omega] at this
      cases hm : mayB y k with
      | true =>
        simp only [if_true, List.mem_cons]
        rw [← this]
        constructor
        · rintro (e | e)
          · omega
          · exact e
        · exact .inr
      | false => simpa using this
theorem found_eq {ks : List Key} {x : Key} {gone : List Int} {j : Nat} (h : ks[j]? = some x) : decide ((j : Int) ∈ thereB gone (pickB x ks 0)) = !decide ((j : Int) ∈ gone) := by
  have := pickB_at (k := x) (i := 0) h
  rw [Nat.zero_add, mayB_self] at this
  simp at this
  unfold thereB
  rw [Bool.eq_iff_iff]
  simp [this]
theorem all_close {gone : List Int} {j : Nat} {a5 : Option Addr} {c5 g6 cap6 : Nat} {wq wp w6 : World} {o : Obj} (hdm : decide ((j : Int) ∈ gone) = false) (hr : Row wp 3 1 (.slice a5 (thereB gone (idxs j)).length c5) (thereB gone (idxs j)).length ((thereB gone (idxs j)).map (Value.int .i64)) ∧ (∀ b, (Value.slice a5 (thereB gone (idxs j)).length c5).ownBlock = some b → wq.heap.size ≤ b) ∧ Turned (fun _ => False) wq wp)
    (h6 : Row w6 3 1 (.slice (some ⟨g6, 0, none⟩) ((thereB gone (idxs j)).length + 1) cap6) ((thereB gone (idxs j)).length + 1) ((thereB gone (idxs j)).map (Value.int .i64) ++ [.int .i64 j])) (T6 : Turned (fun k => (Value.slice a5 (thereB gone (idxs j)).length c5).ownBlock = some k) (wp.alloc o) w6)
    (hloc : some g6 = (Value.slice a5 (thereB gone (idxs j)).length c5).ownBlock ∨ g6 = (wp.alloc o).heap.size) :
    Row w6 3 1 (.slice (some ⟨g6, 0, none⟩) ((thereB gone (idxs j)).length + 1) cap6) (thereB gone (idxs (j + 1))).length ((thereB gone (idxs (j + 1))).map (Value.int .i64)) ∧ (∀ b, (Value.slice (some ⟨g6, 0, none⟩) ((thereB gone (idxs j)).length + 1) cap6).ownBlock = some b → wq.heap.size ≤ b) ∧ Turned (fun _ => False) wq w6 := by
  have e : thereB gone (idxs (j + 1)) = thereB gone (idxs j) ++ [(j : Int)] := by
    rw [idxs_snoc]
    unfold thereB
    rw [List.filter_append]
    simp [of_decide_eq_false hdm]
  have s1 := hr.2.2.size
  refine ⟨?_, fun b hb => ?_, (hr.2.2.alloc o).step T6 (fun i hi h => by have := hr.2.1 i h; omega)⟩
  · rw [e, List.length_append, List.length_singleton, List.map_append]
    exact h6
  · simp [Value.ownBlock] at hb
    subst hb
    rcases hloc with e | e
    · exact hr.2.1 _ e.symm
    · simp at e; omega
theorem infoB : (Try.prog.info? 4).map (fun i => (i.zero, i.size, i.bytes)) = some (some (.bool false), 1, 1) := by kernel_rfl
set_option maxRecDepth 100000 in
set_option maxHeartbeats 6400000 in
theorem indexAll {w : World} {a1 a2 : Option Addr} {c1 c2 : Nat} {ks : List Key} {ds : List Int} (hk : KSl w a1 c1 ks) (hd : ISl w a2 c2 ds) :
    Calls Try.prog 7 #[.slice a1 ks.length c1, .slice a2 ds.length c2] w fun e w' => e = .returned (.bool true) ∧ Turned (fun _ => False) w w' := by
  have kc := hk.cap
  have km := hk.max
  have dc := hd.cap
  have dm := hd.max
  have HK := Lib.hid hk
  have HD := Lib.hid hd
  clear hk hd
  by_cases h1 : 60 < ks.length
  · have hb : decide ((60 : Int) < (ks.length : Int)) = true := by rw [decide_eq_true_eq]; omega
    clear h1
    go_enter Try.func7, Try.ntmps7
    go_wp2_with (first
      | (go_at_call 40; refine (awake40 _).mono ?_; rintro e w1 ⟨rfl, T1⟩))
    go_ret
    exact ⟨rfl, T1⟩
  have hb : decide ((60 : Int) < (ks.length : Int)) = false := by rw [decide_eq_false_iff_not]; omega
  by_cases h2 : 60 < ds.length
  · have hb2 : decide ((60 : Int) < (ds.length : Int)) = true := by rw [decide_eq_true_eq]; omega
    clear h1 h2
    go_enter Try.func7, Try.ntmps7
    go_wp2_with (first
      | (go_at_call 40; refine (awake40 _).mono ?_; rintro e w1 ⟨rfl, T1⟩))
    go_ret
    exact ⟨rfl, T1⟩
  have hb2 : decide ((60 : Int) < (ds.length : Int)) = false := by rw [decide_eq_false_iff_not]; omega
  have l1 : ks.length ≤ 60 := by omega
  have l2 : ds.length ≤ 60 := by omega
  clear h1 h2
  obtain ⟨i0, hi0, hz0, hz1, hz2⟩ := info_parts infoB
  go_enter Try.func7, Try.ntmps7
  go_wp2_with (first
    | (go_at_call 40; refine (awake40 _).mono ?_; rintro e w1 ⟨rfl, T1⟩)
    | (go_at_call 53; refine (new53 _).mono ?_; rintro e w2 ⟨rfl, X2, T2⟩)
    | (at_make; refine wpList_make_row _ rfl _ _ 56 rfl 4 i0 (.bool false) Try.underlying56 hi0 hz0 hz1 rfl _ _ ks.length rfl rfl (by rw [hz2]; omega) (by omega) ?_))
  have HA : Hid (AllIn w (w1.heap.size + 1) w1.heap.size w2.heap.size ks.length (.slice none 0 0) (ks.take 0) [] (fun i => decide (i < 0)) (w2.alloc (.cells (madeCells #[.bool false] ks.length) 4))) := by
    have s1 := T1.size
    have s2 := T2.size
    have lx := X2.lt
    refine ⟨X2.turned0 ((Turned.refl _ _).alloc _), (BIn.made w2 ks.length).congr (by simp), fun k hk => ?_, by omega, (T1.trans T2).alloc _⟩
    have := lx k hk
    rcases hk with rfl | rfl | e
    · omega
    · omega
    · simp [Value.ownBlock] at e
  clear X2 T1 T2 hi0 hz0 hz1 hz2
  revert HA
  generalize w2.alloc (.cells (madeCells #[.bool false] ks.length) 4) = w3
  generalize w1.heap.size + 1 = xb
  generalize w1.heap.size = mb
  generalize w2.heap.size = lb
  intro HA
  go_loopg [7] ks.length (fun g i wr => ∃ j : Nat, Hid (j + g = ks.length) ∧ j ≤ ks.length ∧ i = .int .i64 j ∧ Hid (∃ v, AllIn w xb mb lb ks.length v (ks.take j) [] (fun i => decide (i < j)) wr))
  case atStart => exact ⟨0, Nat.zero_add _, Nat.zero_le _, rfl, _, HA.out⟩
  case round =>
    obtain ⟨j, HG, hj, rfl, HV⟩ := hrel
    obtain ⟨wo, rfl⟩ : ∃ wo : World, wo = wr := ⟨_, rfl⟩
    by_cases hjl : j < ks.length
    · obtain ⟨v, HV⟩ : ∃ v, Hid (AllIn w xb mb lb ks.length v (ks.take j) [] (fun i => decide (i < j)) wo) := by
        obtain ⟨v, h⟩ := HV.out
        exact ⟨v, h⟩
      obtain ⟨b, o, rfl, _⟩ := HK.out.lies (by omega)
      have hx : ks[j]? = some ks[j] := List.getElem?_eq_getElem hjl
      obtain ⟨x, hxe⟩ : ∃ x, x = ks[j] := ⟨_, rfl⟩
      rw [← hxe] at hx
      clear hxe
      obtain ⟨q0, q1, q2, q3⟩ := (HK.out.turned0 HV.out.turned).at hx
      have hadd := add54 HV.out.idx x (by rw [List.length_take]; omega)
      unfold Key.val at hadd
      rw [List.length_take, Nat.min_eq_left hj, ← take_snoc' _ _ _ hx] at hadd
      have HADD := Lib.hid hadd
      clear hadd hx
      go_wp2_with (first
        | (go_at_call 54; (with_reducible refine (HADD.out).mono ?_); rintro e w4 ⟨rfl, v4, X4, T4, hv4⟩; have HA4 := Lib.hid (HV.out.moved X4 T4 hv4); have hcell := HA4.out.bools.cell hjl; have hfree := HA4.out.bools.free j; clear X4 T4 hv4))
      go_roundg (gk - 1)
      case measure => have := HG.out; omega
      case rel =>
        refine ⟨j + 1, show _ = _ by have := HG.out; omega, by omega, by go_num, v4, (HA4.out.store hjl true).congr fun i hi => ?_⟩
        by_cases e : i = j
        · rw [if_pos e]; symm; rw [decide_eq_true_eq]; omega
        · rw [if_neg e]; rw [decide_eq_decide]; omega
    · obtain rfl : j = ks.length := by omega
      obtain ⟨v, HV⟩ : ∃ v, Hid (AllIn w xb mb lb ks.length v ks [] (fun i => !decide ((i : Int) ∈ goneB ks.length [] (ds.take 0))) wo) := by
        obtain ⟨v, h⟩ := HV.out
        rw [List.take_length] at h
        exact ⟨v, h.congr fun i hi => by simp [goneB, hi]⟩
      clear HG hj hjl HA
      go_wp2_with fail
      go_loopg [8] ds.length (fun g i wr => ∃ j : Nat, Hid (j + g = ds.length) ∧ j ≤ ds.length ∧ i = .int .i64 j ∧ Hid (∃ v, AllIn w xb mb lb ks.length v ks (goneB ks.length [] (ds.take j)) (fun i => !decide ((i : Int) ∈ goneB ks.length [] (ds.take j))) wr))
      case atStart => exact ⟨0, Nat.zero_add _, Nat.zero_le _, rfl, _, HV.out⟩
      case round =>
        obtain ⟨j, HG, hj, rfl, HV⟩ := hrel
        obtain ⟨wq, rfl⟩ : ∃ wq : World, wq = wr := ⟨_, rfl⟩
        by_cases hjl : j < ds.length
        · obtain ⟨v, HV⟩ : ∃ v, Hid (AllIn w xb mb lb ks.length v ks (goneB ks.length [] (ds.take j)) (fun i => !decide ((i : Int) ∈ goneB ks.length [] (ds.take j))) wq) := by
            obtain ⟨v, h⟩ := HV.out
            exact ⟨v, h⟩
          obtain ⟨b, o, rfl, _⟩ := HD.out.lies (by omega)
          have hx : ds[j]? = some ds[j] := List.getElem?_eq_getElem hjl
          obtain ⟨d, hxe⟩ : ∃ d, d = ds[j] := ⟨_, rfl⟩
          rw [← hxe] at hx
          clear hxe
          have q0 := (HD.out.turned0 HV.out.turned).at hx
          have hgl := goneB_len ks.length [] (ds.take j)
          rw [List.length_take] at hgl
          have hdrop := drop55 HV.out.idx d (HD.out.wf d (List.mem_of_getElem? hx)) (by simp at hgl; omega)
          have hgs := goneB_snoc ks.length [] (ds.take j) d
          rw [← take_snoc' _ _ _ hx] at hgs
          obtain ⟨gone, hgo⟩ : ∃ gone, gone = goneB ks.length [] (ds.take j) := ⟨_, rfl⟩
          rw [← hgo] at hgs hdrop HV
          have HGS := Lib.hid hgs
          have HX := Lib.hid hx
          have HDROP := Lib.hid hdrop
          clear hgo hgl hgs hdrop hx
          by_cases hd0 : d < 0
          · have HB : Hid (dropB ks.length gone d = false) := by show _ = _; unfold dropB; simp; omega
            have e0 : decide (0 ≤ d) = false := by rw [decide_eq_false_iff_not]; omega
            have hdrop := HDROP.out
            rw [HB.out, if_neg (by decide)] at hdrop
            have HDROP := Lib.hid hdrop
            clear hdrop hd0
            go_wp2_with (first
              | (go_at_call 55; (with_reducible refine (HDROP.out).mono ?_); rintro e w5 ⟨rfl, X5, T5⟩; have HA5 := Lib.hid (HV.out.moved X5 T5 (.inl rfl)); have q5 := (HD.out.turned0 HA5.out.turned).at HX.out; clear X5 T5))
            go_roundg (gk - 1)
            case measure => have := HG.out; omega
            case rel =>
              refine ⟨j + 1, show _ = _ by have := HG.out; omega, by omega, by go_num, v, ?_⟩
              rw [HGS.out, HB.out, if_neg (by decide)]
              exact HA5.out
          · have e0 : decide (0 ≤ d) = true := by rw [decide_eq_true_eq]; omega
            by_cases hd1 : (ks.length : Int) ≤ d
            · have HB : Hid (dropB ks.length gone d = false) := by show _ = _; unfold dropB; simp; omega
              have e1 : decide (d < (ks.length : Int)) = false := by rw [decide_eq_false_iff_not]; omega
              have hdrop := HDROP.out
              rw [HB.out, if_neg (by decide)] at hdrop
              have HDROP := Lib.hid hdrop
              clear hdrop hd0 hd1
              go_wp2_with (first
                | (go_at_call 55; (with_reducible refine (HDROP.out).mono ?_); rintro e w5 ⟨rfl, X5, T5⟩; have HA5 := Lib.hid (HV.out.moved X5 T5 (.inl rfl)); have q5 := (HD.out.turned0 HA5.out.turned).at HX.out; clear X5 T5))
              go_roundg (gk - 1)
              case measure => have := HG.out; omega
              case rel =>
                refine ⟨j + 1, show _ = _ by have := HG.out; omega, by omega, by go_num, v, ?_⟩
                rw [HGS.out, HB.out, if_neg (by decide)]
                exact HA5.out
            · obtain ⟨m, rfl⟩ : ∃ m : Nat, d = (m : Int) := ⟨d.toNat, by omega⟩
              have hml : m < ks.length := by omega
              have e1 : decide ((m : Int) < (ks.length : Int)) = true := by rw [decide_eq_true_eq]; omega
              have hcell := HV.out.bools.cell hml
              clear hd0 hd1
              by_cases hm : (m : Int) ∈ gone
              · have HB : Hid (dropB ks.length gone m = false) := by show _ = _; unfold dropB; simp [hm]
                have hdm : decide ((m : Int) ∈ gone) = true := by simpa using hm
                rw [hdm] at hcell
                have hdrop := HDROP.out
                rw [HB.out, if_neg (by decide)] at hdrop
                have HDROP := Lib.hid hdrop
                clear hdrop hm hdm
                go_wp2_with (first
                  | (go_at_call 55; (with_reducible refine (HDROP.out).mono ?_); rintro e w5 ⟨rfl, X5, T5⟩; have HA5 := Lib.hid (HV.out.moved X5 T5 (.inl rfl)); have q5 := (HD.out.turned0 HA5.out.turned).at HX.out; clear X5 T5))
                go_roundg (gk - 1)
                case measure => have := HG.out; omega
                case rel =>
                  refine ⟨j + 1, show _ = _ by have := HG.out; omega, by omega, by go_num, v, ?_⟩
                  rw [HGS.out, HB.out, if_neg (by decide)]
                  exact HA5.out
              · have HB : Hid (dropB ks.length gone m = true) := by show _ = _; unfold dropB; simp [hm, hml]
                have hdm : decide ((m : Int) ∈ gone) = false := by simpa using hm
                rw [hdm] at hcell
                have hdrop := HDROP.out
                rw [HB.out, if_pos rfl] at hdrop
                have HDROP := Lib.hid hdrop
                clear hdrop hm hdm
                go_wp2_with (first
                  | (go_at_call 55; (with_reducible refine (HDROP.out).mono ?_); rintro e w5 ⟨rfl, X5, T5⟩; have HA5 := Lib.hid (HV.out.moved X5 T5 (.inl rfl)); have q5 := (HD.out.turned0 HA5.out.turned).at HX.out; have hcell5 := HA5.out.bools.cell hml; have hfree5 := HA5.out.bools.free m; clear X5 T5))
                go_roundg (gk - 1)
                case measure => have := HG.out; omega
                case rel =>
                  refine ⟨j + 1, show _ = _ by have := HG.out; omega, by omega, by go_num, v, ?_⟩
                  rw [HGS.out, HB.out, if_pos rfl]
                  refine (HA5.out.store hml false).congr fun i hi => ?_
                  by_cases e : i = m
                  · subst e; simp
                  · rw [if_neg e]; simp; omega
        · obtain rfl : j = ds.length := by omega
          rw [List.take_length] at HV
          obtain ⟨gone, hgo⟩ : ∃ gone, gone = goneB ks.length [] ds := ⟨_, rfl⟩
          rw [← hgo] at HV
          clear hgo HG hj hjl
          obtain ⟨v, HV⟩ : ∃ v, Hid (AllIn w xb mb lb ks.length v ks gone (fun i => !decide ((i : Int) ∈ gone)) wq) := by
            obtain ⟨v, h⟩ := HV.out
            exact ⟨v, h⟩
          go_wp2_with fail
          go_loopg [10, 11] ks.length (fun g all i wr => ∃ j : Nat, Hid (j + g = ks.length) ∧ j ≤ ks.length ∧ i = .int .i64 j ∧ Hid (Row wr 3 1 all (thereB gone (idxs j)).length ((thereB gone (idxs j)).map (Value.int .i64)) ∧ (∀ b, all.ownBlock = some b → wq.heap.size ≤ b) ∧ Turned (fun _ => False) wq wr))
          case atStart => exact ⟨0, Nat.zero_add _, Nat.zero_le _, rfl, Row.nil _ _ _, fun b hb => by simp [Value.ownBlock] at hb, Turned.refl _ _⟩
          case round =>
            obtain ⟨j, HG, hj, rfl, HR⟩ := hrel
            obtain ⟨wp, rfl⟩ : ∃ wp : World, wp = wr := ⟨_, rfl⟩
            obtain ⟨a5, c5, rfl⟩ := HR.out.1.shape
            obtain ⟨gp, rfl⟩ : ∃ gp : Nat, gp = gk := ⟨_, rfl⟩
            have hln : (thereB gone (idxs j)).length ≤ 60 := by
              have := List.length_filter_le (fun i => !decide (i ∈ gone)) (idxs j)
              unfold thereB
              have : (idxs j).length = j := by simp [idxs]
              omega
            by_cases hjl : j < ks.length
            · obtain ⟨b, o, rfl, _⟩ := HK.out.lies (by omega)
              have hx : ks[j]? = some ks[j] := List.getElem?_eq_getElem hjl
              obtain ⟨x, hxe⟩ : ∃ x, x = ks[j] := ⟨_, rfl⟩
              rw [← hxe] at hx
              clear hxe
              have hcell := (HV.out.turned0 HR.out.2.2).bools.cell hjl
              obtain ⟨ps, HPS⟩ : ∃ ps, Hid (ps = thereB gone (pickB x ks 0) ∧ decide ((j : Int) ∈ ps) = !decide ((j : Int) ∈ gone)) := ⟨_, rfl, found_eq hx⟩
              have HX := Lib.hid hx
              clear hx
              cases hdm : decide ((j : Int) ∈ gone) with
              | true =>
                rw [hdm] at hcell
                have HN : Hid (Row wp 3 1 (.slice a5 (thereB gone (idxs j)).length c5) (thereB gone (idxs (j + 1))).length ((thereB gone (idxs (j + 1))).map (Value.int .i64)) ∧ (∀ b, (Value.slice a5 (thereB gone (idxs j)).length c5).ownBlock = some b → wq.heap.size ≤ b) ∧ Turned (fun _ => False) wq wp) := by
                  have : thereB gone (idxs (j + 1)) = thereB gone (idxs j) := by
                    rw [idxs_snoc]
                    unfold thereB
                    rw [List.filter_append]
                    simp [of_decide_eq_true hdm]
                  rw [this]
                  exact HR.out
                have HA := Lib.hid (HV.out.turned0 HN.out.2.2)
                obtain ⟨q0, q1, q2, q3⟩ := (HK.out.turned0 HA.out.turned).at HX.out
                have hpick := pickX59 HA.out.idx x (by omega)
                unfold Key.val at hpick
                rw [← HPS.out.1] at hpick
                have HPICK := Lib.hid hpick
                clear hpick
                go_wp2_with (first
                  | (go_at_call 59; (with_reducible refine (HPICK.out).mono ?_); rintro e w7 ⟨r7, rfl, hr7, hn7, T7⟩; obtain ⟨a7, c7, rfl⟩ := hr7.shape; have hm7 := hr7.max; have HR7 := Lib.hid hr7; clear hr7))
                try clear hcell
                try clear q0 q1 q2 q3
                go_loopg [13, 14] ps.length (fun g fd i wr => ∃ k : Nat, Hid (k + g = ps.length) ∧ k ≤ ps.length ∧ fd = .bool (decide ((j : Int) ∈ ps.take k)) ∧ i = .int .i64 k ∧ Turned (fun _ => False) w7 wr)
                case atStart => exact ⟨0, Nat.zero_add _, Nat.zero_le _, by simp, rfl, Turned.refl _ _⟩
                case round =>
                  obtain ⟨k, HG2, hk, hfd, rfl, Tr⟩ := hrel
                  obtain ⟨wz, rfl⟩ : ∃ wz : World, wz = wr := ⟨_, rfl⟩
                  by_cases hkl : k < ps.length
                  · have hx : ps[k]? = some ps[k] := List.getElem?_eq_getElem hkl
                    obtain ⟨q, hxe⟩ : ∃ q, q = ps[k] := ⟨_, rfl⟩
                    rw [← hxe] at hx
                    clear hxe
                    obtain ⟨g7, cc7, he⟩ := HR7.out.shape_pos (by omega)
                    injection he with he1 _ he2
                    subst he1 he2
                    have hcq := (HR7.out.turned0 Tr).cells rfl k _ (by rw [List.getElem?_map, hx]; rfl)
                    have hts : ps.take (k + 1) = ps.take k ++ [q] := take_snoc' _ _ _ hx
                    have HTS := Lib.hid hts
                    clear hts hx
                    cases hb : decide ((j : Int) ∈ ps.take k) with
                    | true =>
                      rw [hb] at hfd
                      subst hfd
                      have HB := Lib.hid hb
                      clear hb
                      go_wp2_with fail
                      go_roundg (gk - 1)
                      case measure => have := HG2.out; omega
                      case rel =>
                        refine ⟨k + 1, show _ = _ by have := HG2.out; omega, by omega, ?_, by go_num, Tr⟩
                        rw [HTS.out]
                        have := of_decide_eq_true HB.out
                        simp [this]
                    | false =>
                      rw [hb] at hfd
                      subst hfd
                      have HB := Lib.hid hb
                      clear hb
                      by_cases hqj : q = (j : Int)
                      · subst hqj
                        go_wp2_with fail
                        go_roundg (gk - 1)
                        case measure => have := HG2.out; omega
                        case rel =>
                          refine ⟨k + 1, show _ = _ by have := HG2.out; omega, by omega, ?_, by go_num, Tr⟩
                          rw [HTS.out]
                          simp
                      · have hne : (q == (j : Int)) = false := by simpa using hqj
                        have hnd : decide (q = (j : Int)) = false := by simpa using hqj
                        have HQ := Lib.hid hqj
                        clear hqj
                        go_wp2_with fail
                        go_roundg (gk - 1)
                        case measure => have := HG2.out; omega
                        case rel =>
                          refine ⟨k + 1, show _ = _ by have := HG2.out; omega, by omega, ?_, by go_num, Tr⟩
                          rw [HTS.out]
                          have h1 := of_decide_eq_false HB.out
                          have h2 := HQ.out
                          have h3 : ¬ (j : Int) = q := fun e => h2 e.symm
                          simp [h1, h3]
                  · obtain rfl : k = ps.length := by omega
                    rw [List.take_length, HPS.out.2, hdm] at hfd
                    simp only [Bool.not_true, Bool.not_false] at hfd
                    subst hfd
                    have hcz := (HA.out.turned0 (T7.trans Tr)).bools.cell hjl
                    rw [hdm] at hcz
                    simp only [Bool.not_true, Bool.not_false] at hcz
                    go_wp2_with fail
                    go_roundg (gp - 1)
                    case measure => have := HG.out; omega
                    case rel =>
                      exact ⟨j + 1, show _ = _ by have := HG.out; omega, by omega, by go_num, HN.out.1.turned0 (T7.trans Tr), HN.out.2.1, HN.out.2.2.trans (T7.trans Tr)⟩
              | false =>
                rw [hdm] at hcell
                obtain ⟨i0, hi0, hz0, hz1, hz2⟩ := info_parts infoN
                go_wp2_with (first
                  | (at_builtin; go_loud (refine append_some _ rfl _ _ 61 rfl 3 i0 (.int .i64 0) 1 8 Try.underlying61 hi0 hz0 hz1 hz2 rfl (by decide) _ _ _ rfl (HR.out.1.alloc _) ⟨wp.heap.size, 0, none⟩ 1 1 [.int .i64 j] rfl rfl (cell_one_new _ _ _) (by simp [Value.oneCell']) (by omega) (by unfold maxLen; omega) (by omega) ?_; intro g6 cap6 w6 hown6 T6 hloc6; have HN := Lib.hid (all_close hdm HR.out hown6 T6 hloc6); clear hown6 T6 hloc6; have HA := Lib.hid (HV.out.turned0 HN.out.2.2); obtain ⟨q0, q1, q2, q3⟩ := (HK.out.turned0 HA.out.turned).at HX.out; have hpick := pickX59 HA.out.idx x (by omega); unfold Key.val at hpick; rw [← HPS.out.1] at hpick; have HPICK := Lib.hid hpick; clear hpick))
                  | (go_at_call 59; (with_reducible refine (HPICK.out).mono ?_); rintro e w7 ⟨r7, rfl, hr7, hn7, T7⟩; obtain ⟨a7, c7, rfl⟩ := hr7.shape; have hm7 := hr7.max; have HR7 := Lib.hid hr7; clear hr7))
                try clear hcell
                try clear q0 q1 q2 q3
                go_loopg [13, 14] ps.length (fun g fd i wr => ∃ k : Nat, Hid (k + g = ps.length) ∧ k ≤ ps.length ∧ fd = .bool (decide ((j : Int) ∈ ps.take k)) ∧ i = .int .i64 k ∧ Turned (fun _ => False) w7 wr)
                case atStart => exact ⟨0, Nat.zero_add _, Nat.zero_le _, by simp, rfl, Turned.refl _ _⟩
                case round =>
                  obtain ⟨k, HG2, hk, hfd, rfl, Tr⟩ := hrel
                  obtain ⟨wz, rfl⟩ : ∃ wz : World, wz = wr := ⟨_, rfl⟩
                  by_cases hkl : k < ps.length
                  · have hx : ps[k]? = some ps[k] := List.getElem?_eq_getElem hkl
                    obtain ⟨q, hxe⟩ : ∃ q, q = ps[k] := ⟨_, rfl⟩
                    rw [← hxe] at hx
                    clear hxe
                    obtain ⟨g7, cc7, he⟩ := HR7.out.shape_pos (by omega)
                    injection he with he1 _ he2
                    subst he1 he2
                    have hcq := (HR7.out.turned0 Tr).cells rfl k _ (by rw [List.getElem?_map, hx]; rfl)
                    have hts : ps.take (k + 1) = ps.take k ++ [q] := take_snoc' _ _ _ hx
                    have HTS := Lib.hid hts
                    clear hts hx
                    cases hb : decide ((j : Int) ∈ ps.take k) with
                    | true =>
                      rw [hb] at hfd
                      subst hfd
                      have HB := Lib.hid hb
                      clear hb
                      go_wp2_with fail
                      go_roundg (gk - 1)
                      case measure => have := HG2.out; omega
                      case rel =>
                        refine ⟨k + 1, show _ = _ by have := HG2.out; omega, by omega, ?_, by go_num, Tr⟩
                        rw [HTS.out]
                        have := of_decide_eq_true HB.out
                        simp [this]
                    | false =>
                      rw [hb] at hfd
                      subst hfd
                      have HB := Lib.hid hb
                      clear hb
                      by_cases hqj : q = (j : Int)
                      · subst hqj
                        go_wp2_with fail
                        go_roundg (gk - 1)
                        case measure => have := HG2.out; omega
                        case rel =>
                          refine ⟨k + 1, show _ = _ by have := HG2.out; omega, by omega, ?_, by go_num, Tr⟩
                          rw [HTS.out]
                          simp
                      · have hne : (q == (j : Int)) = false := by simpa using hqj
                        have hnd : decide (q = (j : Int)) = false := by simpa using hqj
                        have HQ := Lib.hid hqj
                        clear hqj
                        go_wp2_with fail
                        go_roundg (gk - 1)
                        case measure => have := HG2.out; omega
                        case rel =>
                          refine ⟨k + 1, show _ = _ by have := HG2.out; omega, by omega, ?_, by go_num, Tr⟩
                          rw [HTS.out]
                          have h1 := of_decide_eq_false HB.out
                          have h2 := HQ.out
                          have h3 : ¬ (j : Int) = q := fun e => h2 e.symm
                          simp [h1, h3]
                  · obtain rfl : k = ps.length := by omega
                    rw [List.take_length, HPS.out.2, hdm] at hfd
                    simp only [Bool.not_true, Bool.not_false] at hfd
                    subst hfd
                    have hcz := (HA.out.turned0 (T7.trans Tr)).bools.cell hjl
                    rw [hdm] at hcz
                    simp only [Bool.not_true, Bool.not_false] at hcz
                    go_wp2_with fail
                    go_roundg (gp - 1)
                    case measure => have := HG.out; omega
                    case rel =>
                      exact ⟨j + 1, show _ = _ by have := HG.out; omega, by omega, by go_num, HN.out.1.turned0 (T7.trans Tr), HN.out.2.1, HN.out.2.2.trans (T7.trans Tr)⟩
            · obtain rfl : j = ks.length := by omega
              have HA := Lib.hid (HV.out.turned0 HR.out.2.2)
              have hpz : Calls Try.prog 59 #[.pointer (some ⟨xb, 0, none⟩), .agg #[.int .i64 0, .int .i64 0, .string ByteArray.empty, .int .i64 0]] wp _ := pickX59 HA.out.idx Key.zero (by omega)
              rw [pickB_zero] at hpz
              have HPZ := Lib.hid hpz
              clear hpz
              go_wp2_with (first
                | (go_at_call 59; go_loud (refine (HPZ.out).mono ?_; rintro e w7 ⟨r7, rfl, hr7, hn7, T7⟩; obtain ⟨a7, c7, rfl⟩ := hr7.shape; have HR7 := Lib.hid hr7; clear hr7))
                | (go_at_call 58; refine (ints58 HR7.out (HR.out.1.turned0 T7)).mono ?_; rintro e w8 ⟨rfl, T8⟩))
              go_ret
              exact ⟨by simp, ((HA.out.turned).trans T7).trans T8⟩
end Go.Proofs.Ytoihjobdfjajfaa

/- How a term, a slice of terms that came in is opened. -/
namespace Go.Proofs.Ytoihjobdfjajfaa
open Go.Joins Go.Deep Go.ChangeShapes Go.WideShapes Go.ChangeAt Go.RowKit
set_option linter.unusedVariables false
set_option linter.unusedSimpArgs false

theorem cellsOf27 : Try.prog.cellsOf 27 = 4 := by kernel_rfl
theorem cellsOf22 : Try.prog.cellsOf 22 = 1 := by kernel_rfl
theorem cellsOf3 : Try.prog.cellsOf 3 = 1 := by kernel_rfl
theorem cellsOf2 : Try.prog.cellsOf 2 = 1 := by kernel_rfl
theorem cellsOf9 : Try.prog.cellsOf 9 = 1 := by kernel_rfl
theorem I64_of {n : Int} (h : (Lit.int .i64 n).wf = true) : I64 n := by
  unfold I64
  simp [Lit.wf] at h
  have e1 : IntKind.i64.min = -9223372036854775808 := by decide
  have e2 : IntKind.i64.max = 9223372036854775807 := by decide
  omega

section
variable {H : Type} {enc : TypeId × Value → H} {W : World} {base : Nat} {sp : Nat → Bool} {held : Bool}
theorem list4 {α : Type} {l : List α} (h : l.length = 4) : ∃ a b c d, l = [a, b, c, d] := by
  match l, h with
  | [a, b, c, d], _ => exact ⟨a, b, c, d, rfl⟩
set_option maxRecDepth 100000 in
theorem terms_of (fuel : Nat) : (∀ cs (x : DataW H × List MemPlace), DataW.trod enc Try.prog W base sp held fuel 27 cs = some x → ∃ t : LT, cs = t.cells ∧ t.In (fun _ => True) W) ∧
    (∀ cs (x : DataW H × List MemPlace), DataW.trod enc Try.prog W base sp held fuel 22 cs = some x → ∃ a cap, ∃ l : List LT, cs = [.slice a l.length cap] ∧ LT.Sl (fun _ => True) W a cap l) := by
  induction fuel with
  | zero => exact ⟨fun cs x h => by simp [DataW.trod] at h, fun cs x h => by simp [DataW.trod] at h⟩
  | succ fuel ih =>
    refine ⟨fun cs x h => ?_, fun cs x h => ?_⟩
    · obtain ⟨xs, n, hn, hx, hcs, hlen, hf⟩ := DataW.trod_struct Try.underlying27 h
      have hn : fuel = n := by omega
      subst hn
      rw [cellsOf27] at hcs
      obtain ⟨u0, u1, u2, u3, rfl⟩ := list4 hcs
      obtain ⟨y0, y1, y2, y3, rfl⟩ := list4 hlen
      · · have f0 : DataW.trod enc Try.prog W base sp held fuel 3 (([u0, u1, u2, u3].drop 0).take (Try.prog.cellsOf 3)) = some y0 := hf 0 _ rfl
          have f1 : DataW.trod enc Try.prog W base sp held fuel 2 (([u0, u1, u2, u3].drop 1).take (Try.prog.cellsOf 2)) = some y1 := hf 1 _ rfl
          have f2 : DataW.trod enc Try.prog W base sp held fuel 9 (([u0, u1, u2, u3].drop 2).take (Try.prog.cellsOf 9)) = some y2 := hf 2 _ rfl
          have f3 : DataW.trod enc Try.prog W base sp held fuel 22 (([u0, u1, u2, u3].drop 3).take (Try.prog.cellsOf 22)) = some y3 := hf 3 _ rfl
          simp only [cellsOf3, cellsOf2, cellsOf9, cellsOf22] at f0 f1 f2 f3
          simp at f0 f1 f2 f3
          obtain ⟨k, e0, _, wk⟩ := DataW.trod_int Try.underlying3 f0
          obtain ⟨m, e1, _, wm⟩ := DataW.trod_int Try.underlying2 f1
          obtain ⟨s, e2, _, ws⟩ := DataW.trod_string Try.underlying9 f2
          obtain ⟨a, cap, l, e3, hl⟩ := ih.2 _ _ f3
          simp at e0 e1 e2 e3
          subst e0 e1 e2 e3
          exact ⟨.mk k m s (a, cap) l, rfl, hl.in_ (I64_of wk) (I64_of wm) ws⟩
    · rcases DataW.trod_slice Try.underlying22 h with ⟨hcs, _⟩ | ⟨ad, len, cap, elems, rest, n, hn, hcs, _, _, hl, hm, hlen, hel, _⟩
      · exact ⟨none, 0, [], hcs, ⟨fun _ => ⟨rfl, rfl⟩, fun h => by simp at h, trivial, Nat.le_refl _, by unfold maxLen; omega⟩⟩
      · have hn : fuel = n := by omega
        subst hn
        rw [cellsOf27] at hel
        have hp : ∀ i, ∃ t : LT, i < len → t.In (fun _ => True) W ∧ ∀ j, j < 4 → W.cell? (ad.add (i * 4 + j)) = t.cells[j]? := by
          intro i
          by_cases hi : i < len
          · have he := hel i hi
            rw [List.getElem?_eq_getElem (by omega)] at he
            obtain ⟨cs', hc, ht⟩ := Option.bind_eq_some_iff.1 he
            obtain ⟨t, rfl, hin⟩ := ih.1 _ _ ht
            obtain ⟨_, _, hat⟩ := World.cells?_some hc
            refine ⟨t, fun _ => ⟨hin, fun j hj => ?_⟩⟩
            rw [← hat j hj]
            congr 1
            exact (add_add ..).symm
          · exact ⟨.mk 0 0 ByteArray.empty (none, 0) [], fun h => absurd h hi⟩
        obtain ⟨f, hff⟩ := Classical.axiomOfChoice hp
        refine ⟨some ad, cap, (List.range len).map f, by simpa using hcs, ⟨(fun e => by cases e), fun hpos => ?_, (LT.ins_iff _).2 fun x hx => ?_, by simpa using hl, hm⟩⟩
        · simp at hpos
          obtain ⟨b, o, spot⟩ := ad
          have hc := (hff 0 (by omega)).2 0 (by omega)
          have hspot : spot = none := by
            rw [LT.cells_eq] at hc
            simpa [Addr.add] using World.cell?_spot hc
          subst hspot
          refine ⟨b, o, rfl, trivial, fun j u hu => ?_⟩
          have hlt := (List.getElem?_eq_some_iff.1 hu).1
          rw [LT.flat_length, List.length_map, List.length_range] at hlt
          have hi : j / 4 < len := by omega
          have hx : ((List.range len).map f)[j / 4]? = some (f (j / 4)) := by rw [List.getElem?_map, List.getElem?_range hi]; rfl
          have h4 := LT.flat_at hx (j % 4) (by omega)
          rw [show j / 4 * 4 + j % 4 = j by omega, hu] at h4
          have hc := (hff (j / 4) hi).2 (j % 4) (by omega)
          rw [show j / 4 * 4 + j % 4 = j by omega, Addr.add_lit] at hc
          rw [hc, h4]
        · obtain ⟨i, hi, rfl⟩ := List.mem_map.1 hx
          exact (hff i (by simpa using hi)).1
theorem slT_of {fuel : Nat} {a : Option Addr} {len cap : Nat} {x : DataW H × List MemPlace} (hf : DataW.trod enc Try.prog W base sp held fuel 22 (Value.slice a len cap).cells.toList = some x) : ∃ l : List LT, l.length = len ∧ LT.Sl (fun _ => True) W a cap l := by
  obtain ⟨a', cap', l, hcs, hl⟩ := (terms_of fuel).2 _ _ hf
  simp [Value.cells] at hcs
  obtain ⟨rfl, rfl, rfl⟩ := hcs
  exact ⟨l, rfl, hl⟩
set_option maxRecDepth 100000 in
theorem tmT_of {fuel : Nat} {r : Reach} {b0 : Nat} {v : Value} {x : DataW H × List MemPlace} (hv : Value.okWide Try.prog W r b0 27 v) (hf : DataW.trod enc Try.prog W base sp held fuel 27 v.cells.toList = some x) : ∃ t : LT, v = t.val ∧ t.In (fun _ => True) W := by
  obtain ⟨cs, rfl, hsz⟩ := okWide_struct Try.underlying27 hv
  obtain ⟨t, hcs, hin⟩ := (terms_of fuel).1 _ _ hf
  refine ⟨t, ?_, hin⟩
  cases t with | mk k n s e bs =>
  simp only [Value.cells] at hcs
  show Value.agg cs = Value.agg _
  congr 1
  exact Array.toList_inj.1 hcs
end
end Go.Proofs.Ytoihjobdfjajfaa

/- How a slice of keys, of ints that came in is opened. -/
namespace Go.Proofs.Ytoihjobdfjajfaa
open Go.Joins Go.Deep Go.ChangeShapes Go.WideShapes Go.ChangeAt Go.RowKit
set_option linter.unusedVariables false
set_option linter.unusedSimpArgs false
theorem cellsOf35 : Try.prog.cellsOf 35 = 4 := by kernel_rfl
section
variable {H : Type} {enc : TypeId × Value → H} {W : World} {base : Nat} {sp : Nat → Bool} {held : Bool}
set_option maxRecDepth 100000 in
theorem isT_of {fuel : Nat} {a : Option Addr} {len cap : Nat} {x : DataW H × List MemPlace} (hf : DataW.trod enc Try.prog W base sp held fuel 61 (Value.slice a len cap).cells.toList = some x) : ∃ l : List Int, l.length = len ∧ ISl W a cap l := by
  cases fuel with
  | zero => simp [DataW.trod] at hf
  | succ fuel =>
  rcases DataW.trod_slice Try.underlying61 hf with ⟨hcs, _⟩ | ⟨ad, len', cap', elems, rest, n, hn, hcs, _, _, hl, hm, hlen, hel, _⟩
  · simp [Value.cells] at hcs
    obtain ⟨rfl, rfl, rfl⟩ := hcs
    exact ⟨[], rfl, ⟨fun _ => ⟨rfl, rfl⟩, fun h => by simp at h, Nat.le_refl _, by omega, fun x hx => by cases hx⟩⟩
  · simp [Value.cells] at hcs
    obtain ⟨rfl, rfl, rfl⟩ := hcs
    rw [cellsOf3] at hel
    have hp : ∀ i, ∃ k : Int, i < len → I64 k ∧ W.cell? (ad.add i) = some (.int .i64 k) := by
      intro i
      by_cases hi : i < len
      · have he := hel i hi
        rw [List.getElem?_eq_getElem (by omega)] at he
        obtain ⟨cs', hc, ht⟩ := Option.bind_eq_some_iff.1 he
        obtain ⟨k, rfl, _, wk⟩ := DataW.trod_int Try.underlying3 ht
        obtain ⟨_, _, hat⟩ := World.cells?_some hc
        have h0 := hat 0 (by omega)
        simp at h0
        refine ⟨k, fun _ => ⟨I64_of wk, ?_⟩⟩
        rw [← h0]
        congr 1
      · exact ⟨0, fun h => absurd h hi⟩
    obtain ⟨f, hff⟩ := Classical.axiomOfChoice hp
    refine ⟨(List.range len).map f, by simp, ⟨(fun e => by cases e), fun hpos => ?_, by simpa using hl, by unfold maxLen at hm; omega, fun x hx => ?_⟩⟩
    · simp at hpos
      obtain ⟨b, o, spot⟩ := ad
      have hc := (hff 0 hpos).2
      have hspot : spot = none := by simpa [Addr.add] using World.cell?_spot hc
      subst hspot
      refine ⟨b, o, rfl, fun j u hu => ?_⟩
      have hlt := (List.getElem?_eq_some_iff.1 hu).1
      rw [List.length_map, List.length_range] at hlt
      have h4 : ((List.range len).map f)[j]? = some (f j) := by rw [List.getElem?_map, List.getElem?_range hlt]; rfl
      rw [hu] at h4
      have hc := (hff j hlt).2
      rw [Addr.add_lit] at hc
      rw [hc, Option.some.inj h4]
    · obtain ⟨i, hi, rfl⟩ := List.mem_map.1 hx
      exact (hff i (by simpa using hi)).1
set_option maxRecDepth 100000 in
theorem key_of {fuel : Nat} {cs : List Value} {x : DataW H × List MemPlace} (h : DataW.trod enc Try.prog W base sp held fuel 35 cs = some x) : ∃ k : Key, cs = k.cells := by
  cases fuel with
  | zero => simp [DataW.trod] at h
  | succ fuel =>
  obtain ⟨xs, n, hn, hx, hcs, hlen, hf⟩ := DataW.trod_struct Try.underlying35 h
  have hn : fuel = n := by omega
  subst hn
  rw [cellsOf35] at hcs
  obtain ⟨u0, u1, u2, u3, rfl⟩ := list4 hcs
  obtain ⟨y0, y1, y2, y3, rfl⟩ := list4 hlen
  have f0 : DataW.trod enc Try.prog W base sp held fuel 3 (([u0, u1, u2, u3].drop 0).take (Try.prog.cellsOf 3)) = some y0 := hf 0 _ rfl
  have f1 : DataW.trod enc Try.prog W base sp held fuel 2 (([u0, u1, u2, u3].drop 1).take (Try.prog.cellsOf 2)) = some y1 := hf 1 _ rfl
  have f2 : DataW.trod enc Try.prog W base sp held fuel 9 (([u0, u1, u2, u3].drop 2).take (Try.prog.cellsOf 9)) = some y2 := hf 2 _ rfl
  have f3 : DataW.trod enc Try.prog W base sp held fuel 3 (([u0, u1, u2, u3].drop 3).take (Try.prog.cellsOf 3)) = some y3 := hf 3 _ rfl
  simp only [cellsOf3, cellsOf2, cellsOf9] at f0 f1 f2 f3
  simp at f0 f1 f2 f3
  obtain ⟨k, e0, _, wk⟩ := DataW.trod_int Try.underlying3 f0
  obtain ⟨m, e1, _, wm⟩ := DataW.trod_int Try.underlying2 f1
  obtain ⟨s, e2, _, ws⟩ := DataW.trod_string Try.underlying9 f2
  obtain ⟨r, e3, _, wr⟩ := DataW.trod_int Try.underlying3 f3
  simp at e0 e1 e2 e3
  subst e0 e1 e2 e3
  exact ⟨⟨k, m, s, r⟩, rfl⟩
set_option maxRecDepth 100000 in
theorem klT_of {fuel : Nat} {a : Option Addr} {len cap : Nat} {x : DataW H × List MemPlace} (hf : DataW.trod enc Try.prog W base sp held fuel 55 (Value.slice a len cap).cells.toList = some x) : ∃ l : List Key, l.length = len ∧ KSl W a cap l := by
  cases fuel with
  | zero => simp [DataW.trod] at hf
  | succ fuel =>
  rcases DataW.trod_slice Try.underlying55 hf with ⟨hcs, _⟩ | ⟨ad, len', cap', elems, rest, n, hn, hcs, _, _, hl, hm, hlen, hel, _⟩
  · simp [Value.cells] at hcs
    obtain ⟨rfl, rfl, rfl⟩ := hcs
    exact ⟨[], rfl, ⟨fun _ => ⟨rfl, rfl⟩, fun h => by simp at h, Nat.le_refl _, by omega⟩⟩
  · simp [Value.cells] at hcs
    obtain ⟨rfl, rfl, rfl⟩ := hcs
    rw [cellsOf35] at hel
    have hp : ∀ i, ∃ k : Key, i < len → ∀ j, j < 4 → W.cell? (ad.add (i * 4 + j)) = k.cells[j]? := by
      intro i
      by_cases hi : i < len
      · have he := hel i hi
        rw [List.getElem?_eq_getElem (by omega)] at he
        obtain ⟨cs', hc, ht⟩ := Option.bind_eq_some_iff.1 he
        obtain ⟨k, rfl⟩ := key_of ht
        obtain ⟨_, _, hat⟩ := World.cells?_some hc
        refine ⟨k, fun _ j hj => ?_⟩
        rw [← hat j hj]
        congr 1
        exact (add_add ..).symm
      · exact ⟨Key.zero, fun h => absurd h hi⟩
    obtain ⟨f, hff⟩ := Classical.axiomOfChoice hp
    refine ⟨(List.range len).map f, by simp, ⟨(fun e => by cases e), fun hpos => ?_, by simpa using hl, by unfold maxLen at hm; omega⟩⟩
    simp at hpos
    obtain ⟨b, o, spot⟩ := ad
    have hc := hff 0 (by omega) 0 (by omega)
    have hspot : spot = none := by
      have : W.cell? ((⟨b, o, spot⟩ : Addr).add (0 * 4 + 0)) = some (.int .i64 (f 0).kind) := hc
      simpa [Addr.add] using World.cell?_spot this
    subst hspot
    refine ⟨b, o, rfl, fun j u hu => ?_⟩
    have hf4 : ∀ x : Key, x.cells.length = 4 := fun _ => rfl
    have hlt := (List.getElem?_eq_some_iff.1 hu).1
    rw [flat4_length Key.cells hf4, List.length_map, List.length_range] at hlt
    have hi : j / 4 < len := by omega
    have hx : ((List.range len).map f)[j / 4]? = some (f (j / 4)) := by rw [List.getElem?_map, List.getElem?_range hi]; rfl
    have h4 := flat4_at Key.cells hf4 hx (j % 4) (by omega)
    rw [show j / 4 * 4 + j % 4 = j by omega, hu] at h4
    have hc := hff (j / 4) hi (j % 4) (by omega)
    rw [show j / 4 * 4 + j % 4 = j by omega, Addr.add_lit] at hc
    rw [hc, h4]
end
end Go.Proofs.Ytoihjobdfjajfaa

/- IndexPlays: the document's key and May; rows of bools; a list of acts. -/
namespace Go.Proofs.Ytoihjobdfjajfaa
set_option linter.unusedVariables false
set_option linter.unusedSimpArgs false
open Go.RowKit Go.Maps
attribute [local go_sem ↓] Go.wp_at_zero Go.wp_at_succ

theorem fields63 : Try.prog.underlying 63 = some (.struct (Try.prog.fieldsOf 63)) := by unfold Program.fieldsOf; rw [Try.underlying63]
theorem stood63 : Try.prog.stoodInHeld 63 = false := by kernel_rfl
theorem key_eql63 (a b : Key) (W : World) : (binOp .eql 63 (.agg #[.int .i64 a.kind, .int .i64 a.n, .string a.name, .int .i64 a.arity]) (.agg #[.int .i64 b.kind, .int .i64 b.n, .string b.name, .int .i64 b.arity])).run Try.prog W = .ok (.bool (decide (a = b))) W := by
  rw [run_eql_struct, show (10000 : Nat) = 9999 + 1 from rfl, run_equalIn_agg _ _ _ _ _ fields63 stood63]
  unfold Program.fieldsOf
  rw [Try.underlying63]
  have hb := bytes_eq a.name b.name
  simp [go_sem, Try.underlying3, Try.underlying2, Try.underlying9, key_ext, hb]
  by_cases h1 : a.kind = b.kind <;> by_cases h2 : a.n = b.n <;> by_cases h3 : a.name = b.name <;> by_cases h4 : a.arity = b.arity <;> simp [h1, h2, h3, h4]

set_option maxRecDepth 100000 in
set_option maxHeartbeats 800000 in
theorem mayr56 (a b : Key) (w : World) : Calls Try.prog 56 #[a.val, b.val] w fun e w' => e = .returned (.bool (mayB a b)) ∧ Turned (fun _ => False) w w' := by
  have hq := key_eql63 a b
  have HQ := Lib.hid hq
  have T := ((Turned.refl (fun _ => False) w).alloc (.cells #[.int .i64 a.kind, .int .i64 a.n, .string a.name, .int .i64 a.arity] 63)).alloc (.cells #[.int .i64 b.kind, .int .i64 b.n, .string b.name, .int .i64 b.arity] 63)
  have HT := Lib.hid T
  clear hq T
  unfold Key.val
  by_cases h0 : a.kind = 0
  · have k0 : (a.kind == 0) = true := by simp [h0]
    have HR : Hid (mayB a b = true) := by show _ = _; unfold mayB; simp [h0]
    clear h0
    go_enter Try.func56, Try.ntmps56
    go_wp2_with fail
    go_ret
    exact ⟨ret_bool HR.out.symm, HT.out⟩
  · have k0 : (a.kind == 0) = false := by simp [h0]
    by_cases h1 : b.kind = 0
    · have k1 : (b.kind == 0) = true := by simp [h1]
      have HR : Hid (mayB a b = true) := by show _ = _; unfold mayB; simp [h1]
      clear h0 h1
      go_enter Try.func56, Try.ntmps56
      go_wp2_with fail
      go_ret
      exact ⟨ret_bool HR.out.symm, HT.out⟩
    · have k1 : (b.kind == 0) = false := by simp [h1]
      have HR : Hid (mayB a b = decide (a = b)) := by show _ = _; unfold mayB; simp [h0, h1]
      clear h0 h1
      have hq := HQ.out
      go_enter Try.func56, Try.ntmps56
      go_wp2_with fail
      go_ret
      exact ⟨ret_bool HR.out.symm, HT.out⟩

set_option maxRecDepth 100000 in
set_option maxHeartbeats 800000 in
theorem key57 (k : Key) (w : World) : Calls Try.prog 57 #[k.val] w fun e w' => e = .returned k.val ∧ Turned (fun _ => False) w w' := by
  have h2 := heap_alloc2_new w (.cells #[.int .i64 k.kind, .int .i64 k.n, .string k.name, .int .i64 k.arity] 35) (.cells #[.int .i64 k.kind, .int .i64 k.n, .string k.name, .int .i64 k.arity] 63)
  have H2 := Lib.hid h2
  clear h2
  unfold Key.val
  go_enter Try.func57, Try.ntmps57
  go_wp2_with fail
  refine bodyPost_ret (v := .agg #[.int .i64 k.kind, .int .i64 k.n, .string k.name, .int .i64 k.arity]) (results_cell_row Try.results57 _ _ (w.heap.size + 1) 63 _ (0, 0) _ rfl H2.out Try.underlying63 rfl (by kernel_rfl)) rfl ⟨rfl, ((Turned.refl _ w).alloc _).alloc _⟩

/-- A list of acts. -/
structure Act2 where
  op : Int
  i : Int
  k : Key
def Act2.cells (a : Act2) : List Value := [.int .i64 a.op, .int .i64 a.i, .int .i64 a.k.kind, .int .i64 a.k.n, .string a.k.name, .int .i64 a.k.arity]
structure ASl (w : World) (a : Option Addr) (c : Nat) (l : List Act2) : Prop where
  none_ : a = none → l.length = 0 ∧ c = 0
  lies : 0 < l.length → ∃ b o, a = some ⟨b, o, none⟩ ∧ ∀ (i : Nat) x, l[i]? = some x → ∀ (j : Nat) u, x.cells[j]? = some u → w.cell? ⟨b, o + (i * 6 + j), none⟩ = some u
  cap : l.length ≤ c
  max : c ≤ 9223372036854775807
  wf : ∀ x ∈ l, I64 x.i
theorem ASl.turned0 {w w' : World} {a : Option Addr} {c : Nat} {l : List Act2} (h : ASl w a c l) (ht : Turned (fun _ => False) w w') : ASl w' a c l := by
  refine ⟨h.none_, fun hp => ?_, h.cap, h.max, h.wf⟩
  obtain ⟨b, o, he, hc⟩ := h.lies hp
  exact ⟨b, o, he, fun i x hx j u hu => ht.cell (hc i x hx j u hu) (fun f => f)⟩
theorem ASl.at {w : World} {b o c : Nat} {l : List Act2} (h : ASl w (some ⟨b, o, none⟩) c l) {i : Nat} {x : Act2} (hi : l[i]? = some x) :
    w.cell? ⟨b, o + i * 6, none⟩ = some (.int .i64 x.op) ∧ w.cell? ⟨b, o + i * 6 + 1, none⟩ = some (.int .i64 x.i) ∧ w.cell? ⟨b, o + i * 6 + 2, none⟩ = some (.int .i64 x.k.kind) ∧ w.cell? ⟨b, o + i * 6 + 3, none⟩ = some (.int .i64 x.k.n) ∧ w.cell? ⟨b, o + i * 6 + 4, none⟩ = some (.string x.k.name) ∧ w.cell? ⟨b, o + i * 6 + 5, none⟩ = some (.int .i64 x.k.arity) := by
  obtain ⟨b', o', e, hc⟩ := h.lies (by have := (List.getElem?_eq_some_iff.1 hi).1; omega)
  injection e with e
  injection e with e1 e2
  subst e1 e2
  have hh := hc i x hi
  refine ⟨hh 0 _ rfl, ?_, ?_, ?_, ?_, ?_⟩
  all_goals rw [Nat.add_assoc]
  · exact hh 1 _ rfl
  · exact hh 2 _ rfl
  · exact hh 3 _ rfl
  · exact hh 4 _ rfl
  · exact hh 5 _ rfl

/-- A row of one-cell elements, one of them stored anew. -/
theorem Row.set1 {w : World} {e : TypeId} {v : Value} {n g cap : Nat} {xs : List Value} (h : Row w e 1 v n xs) (hv : v = .slice (some ⟨g, 0, none⟩) n cap) {j : Nat} (hj : j < n) (u : Value) : Row (w.setCell ⟨g, j, none⟩ u) e 1 v n (xs.set j u) := by
  refine ⟨by rw [List.length_set]; exact h.1, ?_⟩
  rcases h.2 with ⟨rfl, _⟩ | ⟨g', cap', cur, rfl, hgg, h1, h2, h3, htake⟩
  · cases hv
  · injection hv with hv _ hc; injection hv with hv; injection hv with hv; subst hv hc
    have hs := heap_setCell_same w g' j cur e u hgg
    refine .inr ⟨g', cap', _, rfl, hs, h1, h2, by simpa using h3, ?_⟩
    rw [Array.toList_setIfInBounds, List.take_set, htake]

/-- Whether each of n is still there. -/
def ths (n : Nat) (gone : List Int) : List Value := (List.range n).map fun i : Nat => Value.bool (!decide ((i : Int) ∈ gone))
theorem ths_length (n : Nat) (gone : List Int) : (ths n gone).length = n := by simp [ths]
theorem ths_at {n : Nat} {gone : List Int} {i : Nat} (h : i < n) : (ths n gone)[i]? = some (.bool (!decide ((i : Int) ∈ gone))) := by simp [ths, h]
theorem ths_snoc {n : Nat} {gone : List Int} (h : ∀ g ∈ gone, g < (n : Int)) : ths (n + 1) gone = ths n gone ++ [.bool true] := by
  unfold ths
  rw [List.range_succ, List.map_append]
  congr 1
  have : (n : Int) ∉ gone := fun hm => by have := h _ hm; omega
  simp [this]
theorem ths_drop {n : Nat} {gone : List Int} {m : Nat} (h : m < n) : ths n (gone ++ [(m : Int)]) = (ths n gone).set m (.bool false) := by
  apply List.ext_getElem?
  intro i
  rw [List.getElem?_set]
  by_cases hi : i < n
  · rw [ths_at hi]
    by_cases e : m = i
    · subst e; simp [ths_length, h]
    · rw [if_neg e, ths_at hi]
      have : ¬ (i : Int) = (m : Int) := by omega
      simp [this]
  · have h1 : (ths n (gone ++ [(m : Int)]))[i]? = none := List.getElem?_eq_none (by rw [ths_length]; omega)
    have h2 : (ths n gone)[i]? = none := List.getElem?_eq_none (by rw [ths_length]; omega)
    rw [h1, h2, if_neg (by omega)]
end Go.Proofs.Ytoihjobdfjajfaa

/- bind.Set. -/
namespace Go.Proofs.Ytoihjobdfjajfaa
set_option linter.unusedVariables false
set_option linter.unusedSimpArgs false
open Go.RowKit Go.Maps
theorem ownB_bare (m : Nat) (t : LT) : Tm.ownB m t.bare = Tm.ownB m t := by unfold Tm.ownB; rw [goodB_bare, Tm.vars_bare]
/-- What is left of the binds when a map was made and written. -/
theorem BI.noted {p : Nat → Prop} {bb sb m : Nat} {lv tv : Value} {l : TL} {w w' : World} {o : Obj} (h : BI p bb sb lv tv m l w) (T : Turned (· = w.heap.size) (w.alloc o) w') : BI p bb sb lv tv m l w' :=
  (h.turned0 ((Turned.refl _ w).alloc o)).turned T (fun k hk e => by
    subst e
    refine ⟨fun c => Nat.lt_irrefl _ (h.own_lt _ c), fun b hb c => ?_, fun c => Nat.lt_irrefl _ (h.sep _ c).1⟩
    have := (Array.getElem?_eq_some_iff.1 (h.terms b hb).1).1
    omega)
theorem noted0 {w w' : World} {o : Obj} (T : Turned (· = w.heap.size) (w.alloc o) w') : Turned (fun _ => False) w w' :=
  ((Turned.refl (fun _ => False) w).alloc o).step T (fun i hi e => by omega)
section
variable {p : Nat → Prop} {bb sb m : Nat} {lv tv : Value} {l : TL} {w w' : World} {t : LT} {n : Int}
/-- What stands behind Set. -/
def SetQ (p : Nat → Prop) (bb sb m : Nat) (lv tv : Value) (l : TL) (w : World) (n : Int) (t : LT) (w' : World) : Prop :=
  (∃ tv' l', BI p bb sb lv tv' m l' w' ∧ bt l' = (if Tm.setE m (bt l) n t.bare = 0 then (n, t.bare) :: bt l else bt l) ∧ (tv'.ownBlock = tv.ownBlock ∨ ∀ k, tv'.ownBlock = some k → w.heap.size ≤ k) ∧ ∀ b ∈ l', b ∈ l ∨ w.heap.size ≤ b.2.1) ∧ Turned (fun k => k = sb ∨ lv.ownBlock = some k ∨ tv.ownBlock = some k) w w'
theorem SetQ.same (h : BI p bb sb lv tv m l w) (hE : ¬ Tm.setE m (bt l) n t.bare = 0) (T : Turned (fun _ => False) w w') : SetQ p bb sb m lv tv l w n t w' :=
  ⟨⟨tv, l, h.turned0 T, by rw [if_neg hE], .inl rfl, fun b hb => .inl hb⟩, T.mono (fun _ _ f => f.elim)⟩
set_option maxHeartbeats 400000 in
/-- The variable's pointer is laid, the variable is pushed. -/
theorem push_at {g cl i : Nat} {v : Value} (hb : BI p bb sb (.slice (some ⟨g, 0, none⟩) m cl) tv m l w) (hn : l.length < 65536) (hi : i < m) :
    Calls Try.prog 146 #[.pointer (some ⟨sb, 0, none⟩), .slice (some ⟨w.heap.size, 0, none⟩) 1 1] ((w.setCell ⟨g, i, none⟩ v).alloc (.cells #[.int .i64 n] 2)) fun e w' => e = .returned (.bool true) ∧ ∃ tv', w'.heap[sb]? = some (.cells #[.int .i64 65536, tv'] 209 (0, 0)) ∧
      Row w' 2 1 tv' (l.length + 1) ((l.map fun b => Value.int .i64 b.1).reverse ++ [.int .i64 n]) ∧ Row w' 165 1 (.slice (some ⟨g, 0, none⟩) m cl) m ((ptrs m l).set i v) ∧ Turned (fun k => k = sb ∨ (Value.slice (some ⟨g, 0, none⟩) m cl).ownBlock = some k ∨ tv.ownBlock = some k) w w' ∧ (tv'.ownBlock = tv.ownBlock ∨ ∀ k, tv'.ownBlock = some k → w.heap.size + 1 ≤ k) := by
  obtain ⟨n1, n2, n3, n4, n5, n6⟩ := hb.ne
  have hgs : g ≠ sb := fun e => n3 (by rw [e]; rfl)
  have hsl := (Array.getElem?_eq_some_iff.1 hb.s).1
  have hgl := hb.row.lt g rfl
  have T1 : Turned (fun k => k = g) w (w.setCell ⟨g, i, none⟩ v) := (Turned.refl (fun k => k = g) w).setCell (p := ⟨g, i, none⟩) (.inr rfl) v
  have T2 := T1.alloc (.cells #[.int .i64 n] 2)
  have hs2 := (T2.block sb hsl (fun e => hgs e.symm)).trans hb.s
  have ht2 := hb.trail.turned T2 (fun k hk e => n6 g rfl (by rw [← e]; exact hk))
  have hr2 := (hb.row.setAt (off := i) (by omega) v).turned0 ((Turned.refl _ _).alloc (.cells #[.int .i64 n] 2))
  have h0 := heap_alloc_new (w.setCell ⟨g, i, none⟩ v) (.cells #[.int .i64 n] 2)
  have hz : (w.setCell ⟨g, i, none⟩ v).heap.size = w.heap.size := by simp
  rw [hz] at h0
  refine (push146 hs2 ht2 hn n5 h0).mono ?_
  rintro e w' ⟨rfl, tv', g1, g2, g3, g4⟩
  refine ⟨rfl, tv', g1, g2, hr2.turned g3 (fun k hk e => ?_), (T2.mono (fun k _ e => .inr (.inl (by rw [e]; rfl)))).trans (g3.mono (fun k _ e => e.elim .inl (fun e => .inr (.inr e)))), g4.elim .inl (fun q => .inr (fun k hk => ?_))⟩
  · simp [Value.ownBlock] at hk
    subst hk
    exact e.elim hgs (fun e => n6 g rfl e)
  · have := q k hk
    have h2 : ((w.setCell ⟨g, i, none⟩ v).alloc (.cells #[.int .i64 n] 2)).heap.size = w.heap.size + 1 := by simp
    omega
theorem SetQ.done {g cl : Nat} {tv' : Value} {w6 w9 : World} (h : BI p bb sb (.slice (some ⟨g, 0, none⟩) m cl) tv m l w) (ht : t.In p w) (h0 : 0 ≤ n) (h1 : n < (m : Int)) (hE : Tm.setE m (bt l) n t.bare = 0) (T6 : Turned (fun _ => False) w w6) (hD : BI p bb sb (.slice (some ⟨g, 0, none⟩) m cl) tv m l w6)
    (hc : w6.heap[w.heap.size]? = some (.cells #[.int .i64 t.kind, .int .i64 t.n, .string t.name, .slice t.at_.1 t.args.length t.at_.2] 27 (0, 0)))
    (g1 : w9.heap[sb]? = some (.cells #[.int .i64 65536, tv'] 209 (0, 0))) (g2 : Row w9 2 1 tv' (l.length + 1) ((l.map fun b => Value.int .i64 b.1).reverse ++ [.int .i64 n])) (g3 : Row w9 165 1 (.slice (some ⟨g, 0, none⟩) m cl) m ((ptrs m l).set n.toNat (.pointer (some ⟨w.heap.size, 0, none⟩))))
    (g4 : Turned (fun k => k = sb ∨ (Value.slice (some ⟨g, 0, none⟩) m cl).ownBlock = some k ∨ tv.ownBlock = some k) w6 w9) (g5 : tv'.ownBlock = tv.ownBlock ∨ ∀ k, tv'.ownBlock = some k → w6.heap.size + 1 ≤ k) : SetQ p bb sb m (.slice (some ⟨g, 0, none⟩) m cl) tv l w n t w9 := by
  have hn : ((n.toNat : Nat) : Int) = n := Int.toNat_of_nonneg h0
  have hcl := (Array.getElem?_eq_some_iff.1 hc).1
  refine ⟨⟨tv', ((n.toNat : Int), w.heap.size, t) :: l, ?_, ?_, ?_, fun b hb => (List.mem_cons.1 hb).elim (fun e => .inr (by rw [e]; exact Nat.le_refl _)) .inl⟩, (T6.mono (fun _ _ f => f.elim)).trans g4⟩
  · refine hD.set (by omega) (by rw [hn]; exact hE) g4 g1 g3 (by rw [hn]; exact g2) (g5.elim .inl (fun q => .inr (fun k hk => ?_))) hc (fun c => ?_) (ht.turned0 T6)
    · have := q k hk; omega
    · exact Nat.lt_irrefl _ (h.own_lt _ c)
  · rw [if_pos hE, hn]; rfl
  · refine g5.elim .inl (fun q => .inr (fun k hk => ?_))
    have := q k hk
    have := T6.size
    omega
set_option maxRecDepth 100000 in
set_option maxHeartbeats 3200000 in
theorem set88 (h : BI p bb sb lv tv m l w) (ht : t.In p w) (hs : slim t) (n : Int) (h64 : I64 n) :
    Calls Try.prog 88 #[.pointer (some ⟨bb, 0, none⟩), .int .i64 n, t.val] w fun e w' => e = .returned (.int .i64 (Tm.setE m (bt l) n t.bare)) ∧ SetQ p bb sb m lv tv l w n t w' := by
  have hmm := @run_makeMap Try.prog
  have T1 := (Turned.refl (fun _ => False) w).alloc (.cells #[.int .i64 t.kind, .int .i64 t.n, .string t.name, .slice t.at_.1 t.args.length t.at_.2] 27)
  have hbx := heap_alloc_new w (.cells #[.int .i64 t.kind, .int .i64 t.n, .string t.name, .slice t.at_.1 t.args.length t.at_.2] 27)
  have hgv := given143q (h.turned0 T1) n
  have how := own144 (h.turned0 T1) (ht.turned0 T1) hs
  have H := Lib.hid h
  have HT := Lib.hid ht
  have HV := LT.val_eq t
  rw [HV] at how ⊢
  have HT1 := Lib.hid T1
  have HBX := Lib.hid hbx
  have HEB := Lib.hid (ownB_bare m t)
  by_cases hn0 : 0 ≤ n ∧ n < (m : Int)
  · rw [decide_eq_true hn0] at hgv
    have HGV := Lib.hid hgv
    obtain ⟨hv0, hv1⟩ := hn0
    cases hob : Tm.ownB m t with
    | false =>
      rw [hob] at how
      have hE : Tm.setE m (bt l) n t.bare = 1 := by unfold Tm.setE; rw [HEB.out, hob, if_neg (fun c => Bool.false_ne_true c.2.2)]
      have HE := Lib.hid hE
      have HOW := Lib.hid how
      clear h ht hs hgv how hE hob T1 hbx HV
      go_enter Try.func88, Try.ntmps88
      go_wp2_with (first
        | (go_at_call 143; (with_reducible refine HGV.out.mono ?_); rintro e w3 ⟨rfl, rfl⟩)
        | (go_at_call 144; (with_reducible refine HOW.out.mono ?_); rintro e w4 ⟨rfl, T4⟩))
      go_ret
      exact ⟨by rw [HE.out]; rfl, SetQ.same H.out (by rw [HE.out]; decide) (HT1.out.trans T4)⟩
    | true =>
      rw [hob] at how
      have HOW := Lib.hid how
      have hgb := Tm.ownB_iff.1 (show Tm.ownB m t.bare = true by rw [HEB.out]; exact hob)
      obtain ⟨g, cl, hle⟩ := h.row.shape_pos (by omega)
      subst hle
      have hmx := h.row.max
      have hm65 := h.most
      have hfacts : ∀ W, Turned (fun _ => False) (w.alloc (.cells #[.int .i64 t.kind, .int .i64 t.n, .string t.name, .slice t.at_.1 t.args.length t.at_.2] 27)) W → W.cell? ⟨bb, 0, none⟩ = some (.slice (some ⟨g, 0, none⟩) m cl) ∧ W.cell? ⟨bb, 1, none⟩ = some (.pointer (some ⟨sb, 0, none⟩)) ∧ W.cell? ⟨g, n.toNat, none⟩ = some (ptrV (lookL l n)) ∧ W.frozen? ⟨g, n.toNat, none⟩ = false ∧ W.heap[w.heap.size]? = some (.cells #[.int .i64 t.kind, .int .i64 t.n, .string t.name, .slice t.at_.1 t.args.length t.at_.2] 27 (0, 0)) ∧ BI p bb sb (.slice (some ⟨g, 0, none⟩) m cl) tv m l W := by
        intro W hW
        have hb := H.out.turned0 (HT1.out.trans hW)
        obtain ⟨c0, c1, _⟩ := rec2b hb.b
        have hr := hb.row.cells rfl n.toNat _ (ptrs_at (by omega))
        rw [Int.toNat_of_nonneg hv0] at hr
        exact ⟨c0, c1, hr, hb.row.free rfl _, (hW.block _ (by simp) (fun f => f)).trans HBX.out, hb⟩
      have HF := Lib.hid hfacts
      cases hlk : lookL l n with
      | some cy =>
        obtain ⟨c, y⟩ := cy
        have hE : Tm.setE m (bt l) n t.bare = 8 := by
          unfold Tm.setE
          rw [HEB.out, if_pos ⟨hv0, hv1, hob⟩, if_pos]
          exact Classical.byContradiction (fun c => by
            have := h.free.2 c
            rw [hlk] at this
            cases this)
        have HE := Lib.hid hE
        have HLK := Lib.hid hlk
        clear h ht hs hgv how hE hob T1 hbx HV hfacts hlk hgb
        go_enter Try.func88, Try.ntmps88
        go_wp2_with (first
          | (go_at_call 143; (with_reducible refine HGV.out.mono ?_); rintro e w3 ⟨rfl, rfl⟩)
          | (go_at_call 144; (with_reducible refine HOW.out.mono ?_); rintro e w4 ⟨rfl, T4⟩; obtain ⟨b0, b1, b2, b3, b4, b5⟩ := HF.out _ T4; rw [HLK.out, ptrV] at b2; clear b4 b5))
        go_ret
        exact ⟨by rw [HE.out]; rfl, SetQ.same H.out (by rw [HE.out]; decide) (HT1.out.trans T4)⟩
      | none =>
        have hdom := h.free.1 hlk
        have hwi : ∀ W, Turned (fun _ => False) (w.alloc (.cells #[.int .i64 t.kind, .int .i64 t.n, .string t.name, .slice t.at_.1 t.args.length t.at_.2] 27)) W → Calls Try.prog 145 #[.pointer (some ⟨bb, 0, none⟩), .int .i64 n, .agg #[.int .i64 t.kind, .int .i64 t.n, .string t.name, .slice t.at_.1 t.args.length t.at_.2], .map (some W.heap.size)] (W.alloc (.map #[] 0)) fun e w' => e = .returned (.bool (decide (n ∈ (Tm.img (bt l) t.bare).vars))) ∧ Turned (· = W.heap.size) (W.alloc (.map #[] 0)) w' := by
          intro W hW
          have hb := (HF.out W hW).2.2.2.2.2
          have hq := within145 (mb := W.heap.size) (hb.turned0 ((Turned.refl _ W).alloc (.map #[] 0))) (HT.out.turned0 ((HT1.out.trans hW).alloc _)) hob hdom (IMap.made W Try.prog 2)
            ⟨fun c => Nat.lt_irrefl _ (hb.own_lt _ c), fun b hbm c => (by have := (Array.getElem?_eq_some_iff.1 (hb.terms b hbm).1).1; omega), fun c => Nat.lt_irrefl _ (hb.sep _ c).1⟩
          rw [HV] at hq
          exact hq
        have HLK := Lib.hid hlk
        by_cases hvv : n ∈ (Tm.img (bt l) t.bare).vars
        · have hE : Tm.setE m (bt l) n t.bare = 5 := by
            unfold Tm.setE
            rw [HEB.out, if_pos ⟨hv0, hv1, hob⟩, if_neg hdom, if_pos hvv]
          have HE := Lib.hid hE
          rw [decide_eq_true hvv] at hwi
          have HWI := Lib.hid hwi
          clear h ht hs hgv how hE hob T1 hbx HV hfacts hlk hgb hdom hvv hwi
          go_enter Try.func88, Try.ntmps88
          go_wp2_with (first
            | (go_at_call 143; (with_reducible refine HGV.out.mono ?_); rintro e w3 ⟨rfl, rfl⟩)
            | (go_at_call 144; (with_reducible refine HOW.out.mono ?_); rintro e w4 ⟨rfl, T4⟩; obtain ⟨b0, b1, b2, b3, b4, b5⟩ := HF.out _ T4; rw [HLK.out, ptrV] at b2; obtain ⟨x0, x1, x2, x3, _⟩ := cells4 b4; clear b4 b5)
            | (go_at_call 145; (with_reducible refine (HWI.out _ T4).mono ?_); rintro e w6 ⟨rfl, T6⟩))
          go_ret
          exact ⟨by rw [HE.out]; rfl, SetQ.same H.out (by rw [HE.out]; decide) ((HT1.out.trans T4).trans (noted0 T6))⟩
        · have hE : Tm.setE m (bt l) n t.bare = 0 := by
            unfold Tm.setE
            rw [HEB.out, if_pos ⟨hv0, hv1, hob⟩, if_neg hdom, if_neg hvv]
          have HE := Lib.hid hE
          rw [decide_eq_false hvv] at hwi
          have HWI := Lib.hid hwi
          have hne : ¬ bb = g := fun e => h.ne.2.1 (by rw [e]; rfl)
          have hne' : ¬ g = bb := fun e => hne e.symm
          have hlen := h.length
          have hll : l.length < 65536 := by
            have := nodup_length m (n :: Tm.dom (bt l)) (List.nodup_cons.2 ⟨hdom, Tm.okT_nodup h.ok⟩) (fun x hx => by
              rcases List.mem_cons.1 hx with rfl | hx
              · exact ⟨hv0, hv1⟩
              · obtain ⟨b, hb, rfl⟩ := List.mem_map.1 hx
                have := Tm.okT_mem h.ok hb
                exact ⟨this.1, this.2.1⟩)
            simp [Tm.dom, bt_length] at this
            omega
          clear h ht hs hgv how hE hob T1 hbx HV hfacts hlk hgb hdom hvv hwi
          go_enter Try.func88, Try.ntmps88
          go_wp2_with (first
            | (go_at_call 143; (with_reducible refine HGV.out.mono ?_); rintro e w3 ⟨rfl, rfl⟩)
            | (go_at_call 144; (with_reducible refine HOW.out.mono ?_); rintro e w4 ⟨rfl, T4⟩; obtain ⟨b0, b1, b2, b3, b4, b5⟩ := HF.out _ T4; rw [HLK.out, ptrV] at b2; obtain ⟨x0, x1, x2, x3, _⟩ := cells4 b4; clear b4 b5)
            | (go_at_call 145; (with_reducible refine (HWI.out _ T4).mono ?_); rintro e w6 ⟨rfl, T6⟩; have TM := T4.trans (noted0 T6); obtain ⟨d0, d1, d2, d3, d4, d5⟩ := HF.out _ TM; have HD4 := Lib.hid d4; have HD5 := Lib.hid d5; have HTM := Lib.hid TM; clear b0 b1 b2 b3 x0 x1 x2 x3 d4 d5 TM; rw [HLK.out, ptrV] at d2)
            | (go_at_call 146; (with_reducible refine (push_at HD5.out hll (by omega)).mono ?_); rintro e w9 ⟨rfl, tv', g1, g2, g3, g4, g5⟩; have HG := Lib.hid (And.intro g1 (And.intro g2 (And.intro g3 (And.intro g4 g5)))); clear g1 g2 g3 g4 g5))
          go_ret
          refine ⟨by rw [HE.out]; rfl, SetQ.done H.out HT.out hv0 hv1 HE.out (HT1.out.trans HTM.out) HD5.out HD4.out HG.out.1 HG.out.2.1 HG.out.2.2.1 HG.out.2.2.2.1 HG.out.2.2.2.2⟩
  · rw [decide_eq_false hn0] at hgv
    have HGV := Lib.hid hgv
    have hE : Tm.setE m (bt l) n t.bare = 1 := by unfold Tm.setE; rw [if_neg (fun c => hn0 ⟨c.1, c.2.1⟩)]
    have HE := Lib.hid hE
    clear h ht hs hgv how hE hn0 hbx HV T1
    go_enter Try.func88, Try.ntmps88
    go_wp2_with (go_at_call 143; (with_reducible refine HGV.out.mono ?_); rintro e w3 ⟨rfl, rfl⟩)
    go_ret
    exact ⟨by rw [HE.out]; rfl, SetQ.same H.out (by rw [HE.out]; decide) HT1.out⟩
end
end Go.Proofs.Ytoihjobdfjajfaa

/- bind.Whole. -/
namespace Go.Proofs.Ytoihjobdfjajfaa
set_option linter.unusedVariables false
set_option linter.unusedSimpArgs false
open Go.RowKit Go.Maps
/-- What Whole answers. -/
def wholeE (m : Nat) (l : Tm.Trail) (t : Tm Unit) : Int := if Tm.ownB m t = true then (if Tm.wholeB l t = true then 0 else 12) else 1
def wholeT (m : Nat) (l : Tm.Trail) (t : Tm Unit) : Tm Unit := if wholeE m l t = 0 then Tm.img l t else (leaf 0 0 ByteArray.empty).bare
section
variable {p : Nat → Prop} {bb sb m : Nat} {lv tv : Value} {l : TL} {w w' : World} {t : LT}
set_option maxRecDepth 100000 in
set_option maxHeartbeats 3200000 in
theorem whole89 (h : BI p bb sb lv tv m l w) (ht : t.In p w) (hs : slim t) :
    Calls Try.prog 89 #[.pointer (some ⟨bb, 0, none⟩), t.val] w fun e w' => ∃ u : LT, e = .returned (.tuple #[u.val, .int .i64 (wholeE m (bt l) t.bare)]) ∧ u.bare = wholeT m (bt l) t.bare ∧ u.In (fun k => p k ∨ w.heap.size ≤ k) w' ∧ Turned (fun _ => False) w w' := by
  have h2 := twoBox w (.cells #[.int .i64 t.kind, .int .i64 t.n, .string t.name, .slice t.at_.1 t.args.length t.at_.2] 27) (.cells #[.int .i64 0, .int .i64 0, .string ⟨#[]⟩, .slice none 0 0] 27)
  obtain ⟨w2, hw2⟩ : ∃ z, z = (w.alloc (.cells #[.int .i64 t.kind, .int .i64 t.n, .string t.name, .slice t.at_.1 t.args.length t.at_.2] 27)).alloc (.cells #[.int .i64 0, .int .i64 0, .string ⟨#[]⟩, .slice none 0 0] 27) := ⟨_, rfl⟩
  rw [← hw2] at h2
  have hkp : ∀ W, Turned (fun _ => False) w2 W → W.heap[w.heap.size]? = some (.cells #[.int .i64 t.kind, .int .i64 t.n, .string t.name, .slice t.at_.1 t.args.length t.at_.2] 27 (0, 0)) ∧ W.heap[w.heap.size + 1]? = some (.cells #[.int .i64 0, .int .i64 0, .string ⟨#[]⟩, .slice none 0 0] 27 (0, 0)) := fun W hW => ⟨(hW.block _ (by have := h2.2.1; omega) (fun f => f)).trans h2.2.2.1, (hW.block _ (by have := h2.2.1; omega) (fun f => f)).trans h2.2.2.2⟩
  have how := own144 (h.turned0 h2.1) (ht.turned0 h2.1) hs
  have HV := LT.val_eq t
  rw [HV] at how
  rw [HV]
  have HOW := Lib.hid how
  have HKP := Lib.hid hkp
  have HT2 := Lib.hid h2.1
  have HS2 := Lib.hid h2.2.1
  have HW2 := Lib.hid hw2
  have HH := Lib.hid h
  have HT := Lib.hid ht
  have HVV := Lib.hid HV
  have hob0 := ownB_bare m t
  clear how hkp h2 hw2 h ht hs HV
  cases hob : Tm.ownB m t with
  | false =>
    have HE : Hid (wholeE m (bt l) t.bare = 1) := by show _ = _; unfold wholeE; rw [hob0, hob]; rfl
    have HU : Hid (wholeT m (bt l) t.bare = (leaf 0 0 ByteArray.empty).bare) := by show _ = _; unfold wholeT; rw [HE.out]; rfl
    rw [hob] at HOW
    clear hob hob0
    go_enter Try.func89, Try.ntmps89
    go_wp2_with (go_at_call 144; rw [← HW2.out]; (with_reducible refine HOW.out.mono ?_); rintro e w4 ⟨rfl, T4⟩; obtain ⟨_, hz⟩ := HKP.out _ T4; obtain ⟨z0, z1, z2, z3, f0, f1, f2, f3⟩ := cells4 hz; have HZ := Lib.hid hz; clear hz)
    have hset := set4 (a' := .int .i64 0) (b' := .int .i64 0) (c' := .string ⟨#[]⟩) (d' := .slice none 0 0) HZ.out
    have Tq := turned_store4 w4 (w.heap.size + 1) (.int .i64 0) (.int .i64 0) (.string ⟨#[]⟩) (.slice none 0 0)
    refine bodyPost_ret (results_cell_tmp1 Try.results89 _ _ (w.heap.size + 1) 27 _ (0, 0) _ rfl hset Try.underlying27 rfl (by kernel_rfl)) rfl ⟨leaf 0 0 ByteArray.empty, by rw [HE.out]; rfl, HU.out.symm, leafIn' (i64_lit _ (by omega)) (i64_lit _ (by omega)) (by unfold maxLen; decide), (HT2.out.trans T4).step Tq (fun i hi e => by omega)⟩
  | true =>
    have hgb := Tm.ownB_iff.1 (show Tm.ownB m t.bare = true by rw [hob0, hob])
    rw [hob] at HOW
    obtain ⟨ok, hok⟩ : ∃ z, z = Tm.wholeB (bt l) t.bare := ⟨_, rfl⟩
    have hmk : ∀ W, Turned (fun _ => False) w2 W → Calls Try.prog 147 #[.pointer (some ⟨W.heap.size, 0, none⟩), .agg #[.int .i64 t.kind, .int .i64 t.n, .string t.name, .slice t.at_.1 t.args.length t.at_.2], .int .i64 1] (W.alloc (.cells #[.pointer (some ⟨bb, 0, none⟩), .int .i64 0] 170)) fun e w' => ∃ u : LT, e = .returned (.tuple #[u.val, .bool ok]) ∧ u.In (fun k => p k ∨ w.heap.size + 2 ≤ k) w' ∧ (ok = true → u.bare = Tm.img (bt l) t.bare) ∧ Turned (fun _ => False) W w' := by
      intro W hW
      have hb := HH.out.turned0 (HT2.out.trans hW)
      have TA : Turned (fun _ => False) W (W.alloc (.cells #[.pointer (some ⟨bb, 0, none⟩), .int .i64 0] 170)) := (Turned.refl _ W).alloc _
      have := make147 (K := W.heap.size) 65 t (W.alloc (.cells #[.pointer (some ⟨bb, 0, none⟩), .int .i64 0] 170)) 0 1 (by omega) (by omega) (hb.turned0 TA) (HT.out.turned0 ((HT2.out.trans hW).trans TA)) (Tm.good_ones' hgb.1) ⟨fun c => Nat.lt_irrefl _ (hb.own_lt _ c), fun b hbm c => (by have := (Array.getElem?_eq_some_iff.1 (hb.terms b hbm).1).1; omega), fun c => Nat.lt_irrefl _ (hb.sep _ c).1⟩ (heap_alloc_new W _) (by omega)
      rw [HVV.out] at this
      refine this.mono (fun e w' ⟨u, h1, h2, h3, _, h5⟩ => ⟨u, ?_, h2.mono (fun k _ hk => hk.elim .inl (fun hk => .inr (by have := (hW.trans TA).size; have := HS2.out; omega))), fun e => h3 (by rw [Tm.makeOk_whole, ← hok, e]), TA.step h5 (fun i hi e => by omega)⟩)
      rw [h1, Tm.makeOk_whole, ← hok]
    have HMK := Lib.hid hmk
    have HE : Hid (wholeE m (bt l) t.bare = if ok = true then 0 else 12) := by show _ = _; unfold wholeE; rw [hob0, hob, ← hok]; rfl
    have HU : Hid (wholeT m (bt l) t.bare = if ok = true then Tm.img (bt l) t.bare else (leaf 0 0 ByteArray.empty).bare) := by
      show _ = _
      unfold wholeT
      rw [HE.out]
      cases ok <;> rfl
    clear hob hob0 hmk hgb hok
    cases ok with
    | false =>
      go_enter Try.func89, Try.ntmps89
      go_wp2_with (first
        | (go_at_call 144; rw [← HW2.out]; (with_reducible refine HOW.out.mono ?_); rintro e w4 ⟨rfl, T4⟩; obtain ⟨hc, _⟩ := HKP.out _ (T4.alloc (.cells #[.pointer (some ⟨bb, 0, none⟩), .int .i64 0] 170)); obtain ⟨c0, c1, c2, c3, _⟩ := cells4 hc; have HT4 := Lib.hid T4; clear hc)
        | (go_at_call 147; (with_reducible refine (HMK.out _ T4).mono ?_); rintro e w7 ⟨u, rfl, hui, _, T7⟩; rw [LT.val_eq]; have T8 := (T7.alloc (.cells #[.int .i64 u.kind, .int .i64 u.n, .string u.name, .slice u.at_.1 u.args.length u.at_.2] 27)); have hz8 := (HKP.out _ (HT4.out.trans T8)).2; obtain ⟨z0, z1, z2, z3, f0, f1, f2, f3⟩ := cells4 hz8; have HZ := Lib.hid hz8; have HT8 := Lib.hid T8; clear hz8 T7 T8 hui))
      have hset := set4 (a' := .int .i64 0) (b' := .int .i64 0) (c' := .string ⟨#[]⟩) (d' := .slice none 0 0) HZ.out
      have Tq := fun W => turned_store4 W (w.heap.size + 1) (.int .i64 0) (.int .i64 0) (.string ⟨#[]⟩) (.slice none 0 0)
      refine bodyPost_ret (results_cell_tmp1 Try.results89 _ _ (w.heap.size + 1) 27 _ (0, 0) _ rfl hset Try.underlying27 rfl (by kernel_rfl)) rfl ⟨leaf 0 0 ByteArray.empty, by rw [HE.out]; rfl, HU.out.symm, leafIn' (i64_lit _ (by omega)) (i64_lit _ (by omega)) (by unfold maxLen; decide), ((HT2.out.trans HT4.out).trans HT8.out).step (Tq _) (fun i hi e => by omega)⟩
    | true =>
      go_enter Try.func89, Try.ntmps89
      go_wp2_with (first
        | (go_at_call 144; rw [← HW2.out]; (with_reducible refine HOW.out.mono ?_); rintro e w4 ⟨rfl, T4⟩; obtain ⟨hc, _⟩ := HKP.out _ (T4.alloc (.cells #[.pointer (some ⟨bb, 0, none⟩), .int .i64 0] 170)); obtain ⟨c0, c1, c2, c3, _⟩ := cells4 hc; have HT4 := Lib.hid T4; clear hc)
        | (go_at_call 147; ((with_reducible refine (HMK.out _ T4).mono ?_); rintro e w7 ⟨u, rfl, hui, hub, T7⟩; rw [LT.val_eq]; have T8 := (T7.alloc (.cells #[.int .i64 u.kind, .int .i64 u.n, .string u.name, .slice u.at_.1 u.args.length u.at_.2] 27)); have hz8 := (HKP.out _ (HT4.out.trans T8)).2; obtain ⟨z0, z1, z2, z3, f0, f1, f2, f3⟩ := cells4 hz8; have HZ := Lib.hid hz8; have HT8 := Lib.hid T8; have HUI := Lib.hid (hui.turned0 ((Turned.refl _ w7).alloc (.cells #[.int .i64 u.kind, .int .i64 u.n, .string u.name, .slice u.at_.1 u.args.length u.at_.2] 27))); have HUB := Lib.hid (hub (by trivial)); clear hz8 T7 T8 hui hub)))
      have hset := set4 (a' := .int .i64 u.kind) (b' := .int .i64 u.n) (c' := .string u.name) (d' := .slice u.at_.1 u.args.length u.at_.2) HZ.out
      have Tq := fun W => turned_store4 W (w.heap.size + 1) (.int .i64 u.kind) (.int .i64 u.n) (.string u.name) (.slice u.at_.1 u.args.length u.at_.2)
      refine bodyPost_ret (results_cell_tmp1 Try.results89 _ _ (w.heap.size + 1) 27 _ (0, 0) _ rfl hset Try.underlying27 rfl (by kernel_rfl)) rfl ⟨u, by rw [HE.out, LT.val_eq]; rfl, HUB.out.trans HU.out.symm, ?_, ((HT2.out.trans HT4.out).trans HT8.out).step (Tq _) (fun i hi e => by omega)⟩
      exact HUI.out.turned (Tq _) (fun k _ hk e => by
        rcases hk with hk | hk
        · have := (HH.out.sep k hk).1; omega
        · omega) (fun k _ hk => hk.elim .inl (fun hk => .inr (by omega)))
end
end Go.Proofs.Ytoihjobdfjajfaa

/- deep, as each chapter's laws have it. Printed by a program out of Deep.lean. -/
namespace Go.Proofs.Ytoihjobdfjajfaa
set_option linter.unusedVariables false
set_option linter.unusedSimpArgs false
open Go.RowKit

set_option maxHeartbeats 800000 in
theorem deep41 (p : Nat → Prop) (k : Nat) : ∀ (t : LT) (w : World), k ≤ 1000 → t.In p w →
    Calls Try.prog 41 #[t.val, .int .i64 k] w fun e w' => e = .returned (.bool (deepB k t)) ∧ Turned (fun _ => False) w w' := by
  induction k with
  | zero =>
    intro t w hk ht
    rw [LT.val_eq]
    go_enter Try.func41, Try.ntmps41
    go_wp2_with fail
    go_ret
    exact ⟨rfl, (Turned.refl _ _).alloc _⟩
  | succ k ih =>
    intro t w hk ht
    rw [LT.val_eq]
    have hl := ht.len
    have hm := hl.2.1
    have hm1 := hl.1
    unfold maxLen at hm
    by_cases h12 : 12 < t.args.length
    · go_enter Try.func41, Try.ntmps41
      go_wp2_with fail
      go_ret
      exact ⟨by simp [deepB, h12], (Turned.refl _ _).alloc _⟩
    · have hd : decide (12 < (t.args.length : Int)) = false := by simp; omega
      have hgo : deepB (k + 1) t = t.args.any (deepB k) := by simp [deepB, h12]
      rw [hgo]
      clear hgo
      go_enter Try.func41, Try.ntmps41
      go_wp2_with fail
      have T1 := (Turned.refl (fun _ => False) w).alloc (.cells #[.int .i64 t.kind, .int .i64 t.n, .string t.name, .slice t.at_.1 t.args.length t.at_.2] 27)
      have hb1 := boxed w #[.int .i64 t.kind, .int .i64 t.n, .string t.name, .slice t.at_.1 t.args.length t.at_.2] 27 3
      revert T1 hb1
      generalize w.alloc (.cells #[.int .i64 t.kind, .int .i64 t.n, .string t.name, .slice t.at_.1 t.args.length t.at_.2] 27) = w1
      intro T1 hb1
      have ht1 := ht.turned0 T1
      clear ht hl
      go_loopw [5] (fun i wr => ∃ j : Nat, j ≤ t.args.length ∧ i = .int .i64 j ∧ (t.args.take j).any (deepB k) = false ∧ Turned (fun _ => False) w1 wr) (fun i _ => t.args.length - (intOf i).toNat)
      case atStart => exact ⟨0, Nat.zero_le _, rfl, rfl, Turned.refl _ _⟩
      case round =>
        obtain ⟨j, hj, rfl, hany, Tr⟩ := hrel
        have hb := Tr.cell0 hb1
        simp at hb
        have HA := Lib.hid hany
        clear hany
        by_cases hjl : j < t.args.length
        · have hx : t.args[j]? = some t.args[j] := List.getElem?_eq_getElem hjl
          obtain ⟨x, hxe⟩ : ∃ x, x = t.args[j] := ⟨_, rfl⟩
          rw [← hxe] at hx
          clear hxe
          have hxin := (LT.ins_iff _).1 (ht1.turned0 Tr).args x (List.mem_of_getElem? hx)
          obtain ⟨b, o, ha, _, c0, c1, c2, c3⟩ := (ht1.turned0 Tr).lies.cell hx
          have HX := Lib.hid hx
          clear hx
          rw [ha] at hb
          have hih := fun W h => ih x W (by omega) h
          rw [LT.val_eq] at hih
          have HI := Lib.hid hih
          clear hih ih
          have HAd := Lib.hid ha
          clear ha
          go_wp2_with (go_at_call 41; refine (HI.out _ hxin).mono ?_; rintro e w2 ⟨rfl, T2⟩)
          · have hd : deepB k x = true := by assumption
            go_ret
            exact ⟨ret_bool (any_yes _ _ _ _ HX.out hd).symm, T1.trans (Tr.trans T2)⟩
          · have hd : deepB k x = false := by assumption
            go_roundw
            case rel => exact ⟨j + 1, by omega, by go_num, by rw [any_snoc _ _ _ _ HX.out, HA.out, hd]; rfl, Tr.trans T2⟩
            case measure => simp [intOf]; omega
        · go_wp2_with fail
          go_ret
          refine ⟨?_, T1.trans Tr⟩
          have : j = t.args.length := by omega
          have h := HA.out
          rw [this, List.take_length] at h
          exact ret_bool h.symm
set_option maxHeartbeats 800000 in
theorem deep66 (p : Nat → Prop) (k : Nat) : ∀ (t : LT) (w : World), k ≤ 1000 → t.In p w →
    Calls Try.prog 66 #[t.val, .int .i64 k] w fun e w' => e = .returned (.bool (deepB k t)) ∧ Turned (fun _ => False) w w' := by
  induction k with
  | zero =>
    intro t w hk ht
    rw [LT.val_eq]
    go_enter Try.func66, Try.ntmps66
    go_wp2_with fail
    go_ret
    exact ⟨rfl, (Turned.refl _ _).alloc _⟩
  | succ k ih =>
    intro t w hk ht
    rw [LT.val_eq]
    have hl := ht.len
    have hm := hl.2.1
    have hm1 := hl.1
    unfold maxLen at hm
    by_cases h12 : 12 < t.args.length
    · go_enter Try.func66, Try.ntmps66
      go_wp2_with fail
      go_ret
      exact ⟨by simp [deepB, h12], (Turned.refl _ _).alloc _⟩
    · have hd : decide (12 < (t.args.length : Int)) = false := by simp; omega
      have hgo : deepB (k + 1) t = t.args.any (deepB k) := by simp [deepB, h12]
      rw [hgo]
      clear hgo
      go_enter Try.func66, Try.ntmps66
      go_wp2_with fail
      have T1 := (Turned.refl (fun _ => False) w).alloc (.cells #[.int .i64 t.kind, .int .i64 t.n, .string t.name, .slice t.at_.1 t.args.length t.at_.2] 27)
      have hb1 := boxed w #[.int .i64 t.kind, .int .i64 t.n, .string t.name, .slice t.at_.1 t.args.length t.at_.2] 27 3
      revert T1 hb1
      generalize w.alloc (.cells #[.int .i64 t.kind, .int .i64 t.n, .string t.name, .slice t.at_.1 t.args.length t.at_.2] 27) = w1
      intro T1 hb1
      have ht1 := ht.turned0 T1
      clear ht hl
      go_loopw [5] (fun i wr => ∃ j : Nat, j ≤ t.args.length ∧ i = .int .i64 j ∧ (t.args.take j).any (deepB k) = false ∧ Turned (fun _ => False) w1 wr) (fun i _ => t.args.length - (intOf i).toNat)
      case atStart => exact ⟨0, Nat.zero_le _, rfl, rfl, Turned.refl _ _⟩
      case round =>
        obtain ⟨j, hj, rfl, hany, Tr⟩ := hrel
        have hb := Tr.cell0 hb1
        simp at hb
        have HA := Lib.hid hany
        clear hany
        by_cases hjl : j < t.args.length
        · have hx : t.args[j]? = some t.args[j] := List.getElem?_eq_getElem hjl
          obtain ⟨x, hxe⟩ : ∃ x, x = t.args[j] := ⟨_, rfl⟩
          rw [← hxe] at hx
          clear hxe
          have hxin := (LT.ins_iff _).1 (ht1.turned0 Tr).args x (List.mem_of_getElem? hx)
          obtain ⟨b, o, ha, _, c0, c1, c2, c3⟩ := (ht1.turned0 Tr).lies.cell hx
          have HX := Lib.hid hx
          clear hx
          rw [ha] at hb
          have hih := fun W h => ih x W (by omega) h
          rw [LT.val_eq] at hih
          have HI := Lib.hid hih
          clear hih ih
          have HAd := Lib.hid ha
          clear ha
          go_wp2_with (go_at_call 66; refine (HI.out _ hxin).mono ?_; rintro e w2 ⟨rfl, T2⟩)
          · have hd : deepB k x = true := by assumption
            go_ret
            exact ⟨ret_bool (any_yes _ _ _ _ HX.out hd).symm, T1.trans (Tr.trans T2)⟩
          · have hd : deepB k x = false := by assumption
            go_roundw
            case rel => exact ⟨j + 1, by omega, by go_num, by rw [any_snoc _ _ _ _ HX.out, HA.out, hd]; rfl, Tr.trans T2⟩
            case measure => simp [intOf]; omega
        · go_wp2_with fail
          go_ret
          refine ⟨?_, T1.trans Tr⟩
          have : j = t.args.length := by omega
          have h := HA.out
          rw [this, List.take_length] at h
          exact ret_bool h.symm
set_option maxHeartbeats 800000 in
theorem deep70 (p : Nat → Prop) (k : Nat) : ∀ (t : LT) (w : World), k ≤ 1000 → t.In p w →
    Calls Try.prog 70 #[t.val, .int .i64 k] w fun e w' => e = .returned (.bool (deepB k t)) ∧ Turned (fun _ => False) w w' := by
  induction k with
  | zero =>
    intro t w hk ht
    rw [LT.val_eq]
    go_enter Try.func70, Try.ntmps70
    go_wp2_with fail
    go_ret
    exact ⟨rfl, (Turned.refl _ _).alloc _⟩
  | succ k ih =>
    intro t w hk ht
    rw [LT.val_eq]
    have hl := ht.len
    have hm := hl.2.1
    have hm1 := hl.1
    unfold maxLen at hm
    by_cases h12 : 12 < t.args.length
    · go_enter Try.func70, Try.ntmps70
      go_wp2_with fail
      go_ret
      exact ⟨by simp [deepB, h12], (Turned.refl _ _).alloc _⟩
    · have hd : decide (12 < (t.args.length : Int)) = false := by simp; omega
      have hgo : deepB (k + 1) t = t.args.any (deepB k) := by simp [deepB, h12]
      rw [hgo]
      clear hgo
      go_enter Try.func70, Try.ntmps70
      go_wp2_with fail
      have T1 := (Turned.refl (fun _ => False) w).alloc (.cells #[.int .i64 t.kind, .int .i64 t.n, .string t.name, .slice t.at_.1 t.args.length t.at_.2] 27)
      have hb1 := boxed w #[.int .i64 t.kind, .int .i64 t.n, .string t.name, .slice t.at_.1 t.args.length t.at_.2] 27 3
      revert T1 hb1
      generalize w.alloc (.cells #[.int .i64 t.kind, .int .i64 t.n, .string t.name, .slice t.at_.1 t.args.length t.at_.2] 27) = w1
      intro T1 hb1
      have ht1 := ht.turned0 T1
      clear ht hl
      go_loopw [5] (fun i wr => ∃ j : Nat, j ≤ t.args.length ∧ i = .int .i64 j ∧ (t.args.take j).any (deepB k) = false ∧ Turned (fun _ => False) w1 wr) (fun i _ => t.args.length - (intOf i).toNat)
      case atStart => exact ⟨0, Nat.zero_le _, rfl, rfl, Turned.refl _ _⟩
      case round =>
        obtain ⟨j, hj, rfl, hany, Tr⟩ := hrel
        have hb := Tr.cell0 hb1
        simp at hb
        have HA := Lib.hid hany
        clear hany
        by_cases hjl : j < t.args.length
        · have hx : t.args[j]? = some t.args[j] := List.getElem?_eq_getElem hjl
          obtain ⟨x, hxe⟩ : ∃ x, x = t.args[j] := ⟨_, rfl⟩
          rw [← hxe] at hx
          clear hxe
          have hxin := (LT.ins_iff _).1 (ht1.turned0 Tr).args x (List.mem_of_getElem? hx)
          obtain ⟨b, o, ha, _, c0, c1, c2, c3⟩ := (ht1.turned0 Tr).lies.cell hx
          have HX := Lib.hid hx
          clear hx
          rw [ha] at hb
          have hih := fun W h => ih x W (by omega) h
          rw [LT.val_eq] at hih
          have HI := Lib.hid hih
          clear hih ih
          have HAd := Lib.hid ha
          clear ha
          go_wp2_with (go_at_call 70; refine (HI.out _ hxin).mono ?_; rintro e w2 ⟨rfl, T2⟩)
          · have hd : deepB k x = true := by assumption
            go_ret
            exact ⟨ret_bool (any_yes _ _ _ _ HX.out hd).symm, T1.trans (Tr.trans T2)⟩
          · have hd : deepB k x = false := by assumption
            go_roundw
            case rel => exact ⟨j + 1, by omega, by go_num, by rw [any_snoc _ _ _ _ HX.out, HA.out, hd]; rfl, Tr.trans T2⟩
            case measure => simp [intOf]; omega
        · go_wp2_with fail
          go_ret
          refine ⟨?_, T1.trans Tr⟩
          have : j = t.args.length := by omega
          have h := HA.out
          rw [this, List.take_length] at h
          exact ret_bool h.symm
set_option maxHeartbeats 800000 in
theorem deep85 (p : Nat → Prop) (k : Nat) : ∀ (t : LT) (w : World), k ≤ 1000 → t.In p w →
    Calls Try.prog 85 #[t.val, .int .i64 k] w fun e w' => e = .returned (.bool (deepB k t)) ∧ Turned (fun _ => False) w w' := by
  induction k with
  | zero =>
    intro t w hk ht
    rw [LT.val_eq]
    go_enter Try.func85, Try.ntmps85
    go_wp2_with fail
    go_ret
    exact ⟨rfl, (Turned.refl _ _).alloc _⟩
  | succ k ih =>
    intro t w hk ht
    rw [LT.val_eq]
    have hl := ht.len
    have hm := hl.2.1
    have hm1 := hl.1
    unfold maxLen at hm
    by_cases h12 : 12 < t.args.length
    · go_enter Try.func85, Try.ntmps85
      go_wp2_with fail
      go_ret
      exact ⟨by simp [deepB, h12], (Turned.refl _ _).alloc _⟩
    · have hd : decide (12 < (t.args.length : Int)) = false := by simp; omega
      have hgo : deepB (k + 1) t = t.args.any (deepB k) := by simp [deepB, h12]
      rw [hgo]
      clear hgo
      go_enter Try.func85, Try.ntmps85
      go_wp2_with fail
      have T1 := (Turned.refl (fun _ => False) w).alloc (.cells #[.int .i64 t.kind, .int .i64 t.n, .string t.name, .slice t.at_.1 t.args.length t.at_.2] 27)
      have hb1 := boxed w #[.int .i64 t.kind, .int .i64 t.n, .string t.name, .slice t.at_.1 t.args.length t.at_.2] 27 3
      revert T1 hb1
      generalize w.alloc (.cells #[.int .i64 t.kind, .int .i64 t.n, .string t.name, .slice t.at_.1 t.args.length t.at_.2] 27) = w1
      intro T1 hb1
      have ht1 := ht.turned0 T1
      clear ht hl
      go_loopw [5] (fun i wr => ∃ j : Nat, j ≤ t.args.length ∧ i = .int .i64 j ∧ (t.args.take j).any (deepB k) = false ∧ Turned (fun _ => False) w1 wr) (fun i _ => t.args.length - (intOf i).toNat)
      case atStart => exact ⟨0, Nat.zero_le _, rfl, rfl, Turned.refl _ _⟩
      case round =>
        obtain ⟨j, hj, rfl, hany, Tr⟩ := hrel
        have hb := Tr.cell0 hb1
        simp at hb
        have HA := Lib.hid hany
        clear hany
        by_cases hjl : j < t.args.length
        · have hx : t.args[j]? = some t.args[j] := List.getElem?_eq_getElem hjl
          obtain ⟨x, hxe⟩ : ∃ x, x = t.args[j] := ⟨_, rfl⟩
          rw [← hxe] at hx
          clear hxe
          have hxin := (LT.ins_iff _).1 (ht1.turned0 Tr).args x (List.mem_of_getElem? hx)
          obtain ⟨b, o, ha, _, c0, c1, c2, c3⟩ := (ht1.turned0 Tr).lies.cell hx
          have HX := Lib.hid hx
          clear hx
          rw [ha] at hb
          have hih := fun W h => ih x W (by omega) h
          rw [LT.val_eq] at hih
          have HI := Lib.hid hih
          clear hih ih
          have HAd := Lib.hid ha
          clear ha
          go_wp2_with (go_at_call 85; refine (HI.out _ hxin).mono ?_; rintro e w2 ⟨rfl, T2⟩)
          · have hd : deepB k x = true := by assumption
            go_ret
            exact ⟨ret_bool (any_yes _ _ _ _ HX.out hd).symm, T1.trans (Tr.trans T2)⟩
          · have hd : deepB k x = false := by assumption
            go_roundw
            case rel => exact ⟨j + 1, by omega, by go_num, by rw [any_snoc _ _ _ _ HX.out, HA.out, hd]; rfl, Tr.trans T2⟩
            case measure => simp [intOf]; omega
        · go_wp2_with fail
          go_ret
          refine ⟨?_, T1.trans Tr⟩
          have : j = t.args.length := by omega
          have h := HA.out
          rw [this, List.take_length] at h
          exact ret_bool h.symm
set_option maxHeartbeats 800000 in
theorem deep92 (p : Nat → Prop) (k : Nat) : ∀ (t : LT) (w : World), k ≤ 1000 → t.In p w →
    Calls Try.prog 92 #[t.val, .int .i64 k] w fun e w' => e = .returned (.bool (deepB k t)) ∧ Turned (fun _ => False) w w' := by
  induction k with
  | zero =>
    intro t w hk ht
    rw [LT.val_eq]
    go_enter Try.func92, Try.ntmps92
    go_wp2_with fail
    go_ret
    exact ⟨rfl, (Turned.refl _ _).alloc _⟩
  | succ k ih =>
    intro t w hk ht
    rw [LT.val_eq]
    have hl := ht.len
    have hm := hl.2.1
    have hm1 := hl.1
    unfold maxLen at hm
    by_cases h12 : 12 < t.args.length
    · go_enter Try.func92, Try.ntmps92
      go_wp2_with fail
      go_ret
      exact ⟨by simp [deepB, h12], (Turned.refl _ _).alloc _⟩
    · have hd : decide (12 < (t.args.length : Int)) = false := by simp; omega
      have hgo : deepB (k + 1) t = t.args.any (deepB k) := by simp [deepB, h12]
      rw [hgo]
      clear hgo
      go_enter Try.func92, Try.ntmps92
      go_wp2_with fail
      have T1 := (Turned.refl (fun _ => False) w).alloc (.cells #[.int .i64 t.kind, .int .i64 t.n, .string t.name, .slice t.at_.1 t.args.length t.at_.2] 27)
      have hb1 := boxed w #[.int .i64 t.kind, .int .i64 t.n, .string t.name, .slice t.at_.1 t.args.length t.at_.2] 27 3
      revert T1 hb1
      generalize w.alloc (.cells #[.int .i64 t.kind, .int .i64 t.n, .string t.name, .slice t.at_.1 t.args.length t.at_.2] 27) = w1
      intro T1 hb1
      have ht1 := ht.turned0 T1
      clear ht hl
      go_loopw [5] (fun i wr => ∃ j : Nat, j ≤ t.args.length ∧ i = .int .i64 j ∧ (t.args.take j).any (deepB k) = false ∧ Turned (fun _ => False) w1 wr) (fun i _ => t.args.length - (intOf i).toNat)
      case atStart => exact ⟨0, Nat.zero_le _, rfl, rfl, Turned.refl _ _⟩
      case round =>
        obtain ⟨j, hj, rfl, hany, Tr⟩ := hrel
        have hb := Tr.cell0 hb1
        simp at hb
        have HA := Lib.hid hany
        clear hany
        by_cases hjl : j < t.args.length
        · have hx : t.args[j]? = some t.args[j] := List.getElem?_eq_getElem hjl
          obtain ⟨x, hxe⟩ : ∃ x, x = t.args[j] := ⟨_, rfl⟩
          rw [← hxe] at hx
          clear hxe
          have hxin := (LT.ins_iff _).1 (ht1.turned0 Tr).args x (List.mem_of_getElem? hx)
          obtain ⟨b, o, ha, _, c0, c1, c2, c3⟩ := (ht1.turned0 Tr).lies.cell hx
          have HX := Lib.hid hx
          clear hx
          rw [ha] at hb
          have hih := fun W h => ih x W (by omega) h
          rw [LT.val_eq] at hih
          have HI := Lib.hid hih
          clear hih ih
          have HAd := Lib.hid ha
          clear ha
          go_wp2_with (go_at_call 92; refine (HI.out _ hxin).mono ?_; rintro e w2 ⟨rfl, T2⟩)
          · have hd : deepB k x = true := by assumption
            go_ret
            exact ⟨ret_bool (any_yes _ _ _ _ HX.out hd).symm, T1.trans (Tr.trans T2)⟩
          · have hd : deepB k x = false := by assumption
            go_roundw
            case rel => exact ⟨j + 1, by omega, by go_num, by rw [any_snoc _ _ _ _ HX.out, HA.out, hd]; rfl, Tr.trans T2⟩
            case measure => simp [intOf]; omega
        · go_wp2_with fail
          go_ret
          refine ⟨?_, T1.trans Tr⟩
          have : j = t.args.length := by omega
          have h := HA.out
          rw [this, List.take_length] at h
          exact ret_bool h.symm
set_option maxHeartbeats 800000 in
theorem deep113 (p : Nat → Prop) (k : Nat) : ∀ (t : LT) (w : World), k ≤ 1000 → t.In p w →
    Calls Try.prog 113 #[t.val, .int .i64 k] w fun e w' => e = .returned (.bool (deepB k t)) ∧ Turned (fun _ => False) w w' := by
  induction k with
  | zero =>
    intro t w hk ht
    rw [LT.val_eq]
    go_enter Try.func113, Try.ntmps113
    go_wp2_with fail
    go_ret
    exact ⟨rfl, (Turned.refl _ _).alloc _⟩
  | succ k ih =>
    intro t w hk ht
    rw [LT.val_eq]
    have hl := ht.len
    have hm := hl.2.1
    have hm1 := hl.1
    unfold maxLen at hm
    by_cases h12 : 12 < t.args.length
    · go_enter Try.func113, Try.ntmps113
      go_wp2_with fail
      go_ret
      exact ⟨by simp [deepB, h12], (Turned.refl _ _).alloc _⟩
    · have hd : decide (12 < (t.args.length : Int)) = false := by simp; omega
      have hgo : deepB (k + 1) t = t.args.any (deepB k) := by simp [deepB, h12]
      rw [hgo]
      clear hgo
      go_enter Try.func113, Try.ntmps113
      go_wp2_with fail
      have T1 := (Turned.refl (fun _ => False) w).alloc (.cells #[.int .i64 t.kind, .int .i64 t.n, .string t.name, .slice t.at_.1 t.args.length t.at_.2] 27)
      have hb1 := boxed w #[.int .i64 t.kind, .int .i64 t.n, .string t.name, .slice t.at_.1 t.args.length t.at_.2] 27 3
      revert T1 hb1
      generalize w.alloc (.cells #[.int .i64 t.kind, .int .i64 t.n, .string t.name, .slice t.at_.1 t.args.length t.at_.2] 27) = w1
      intro T1 hb1
      have ht1 := ht.turned0 T1
      clear ht hl
      go_loopw [5] (fun i wr => ∃ j : Nat, j ≤ t.args.length ∧ i = .int .i64 j ∧ (t.args.take j).any (deepB k) = false ∧ Turned (fun _ => False) w1 wr) (fun i _ => t.args.length - (intOf i).toNat)
      case atStart => exact ⟨0, Nat.zero_le _, rfl, rfl, Turned.refl _ _⟩
      case round =>
        obtain ⟨j, hj, rfl, hany, Tr⟩ := hrel
        have hb := Tr.cell0 hb1
        simp at hb
        have HA := Lib.hid hany
        clear hany
        by_cases hjl : j < t.args.length
        · have hx : t.args[j]? = some t.args[j] := List.getElem?_eq_getElem hjl
          obtain ⟨x, hxe⟩ : ∃ x, x = t.args[j] := ⟨_, rfl⟩
          rw [← hxe] at hx
          clear hxe
          have hxin := (LT.ins_iff _).1 (ht1.turned0 Tr).args x (List.mem_of_getElem? hx)
          obtain ⟨b, o, ha, _, c0, c1, c2, c3⟩ := (ht1.turned0 Tr).lies.cell hx
          have HX := Lib.hid hx
          clear hx
          rw [ha] at hb
          have hih := fun W h => ih x W (by omega) h
          rw [LT.val_eq] at hih
          have HI := Lib.hid hih
          clear hih ih
          have HAd := Lib.hid ha
          clear ha
          go_wp2_with (go_at_call 113; refine (HI.out _ hxin).mono ?_; rintro e w2 ⟨rfl, T2⟩)
          · have hd : deepB k x = true := by assumption
            go_ret
            exact ⟨ret_bool (any_yes _ _ _ _ HX.out hd).symm, T1.trans (Tr.trans T2)⟩
          · have hd : deepB k x = false := by assumption
            go_roundw
            case rel => exact ⟨j + 1, by omega, by go_num, by rw [any_snoc _ _ _ _ HX.out, HA.out, hd]; rfl, Tr.trans T2⟩
            case measure => simp [intOf]; omega
        · go_wp2_with fail
          go_ret
          refine ⟨?_, T1.trans Tr⟩
          have : j = t.args.length := by omega
          have h := HA.out
          rw [this, List.take_length] at h
          exact ret_bool h.symm
end Go.Proofs.Ytoihjobdfjajfaa

/- sizarlaw13's awake: what the document tells of two variables. -/
namespace Go.Proofs.Ytoihjobdfjajfaa
set_option linter.unusedVariables false
set_option linter.unusedSimpArgs false
open Go.RowKit Go.Maps
def pT : Tm Unit := .mk 2 0 ⟨#[102]⟩ () [Tm.V 0, Tm.V 1, Tm.V 0]
theorem pT_good : goodB pT = true := by kernel_rfl
theorem goodVal' {p : Nat → Prop} {t : LT} {w : World} {b : Bool} (ht : t.In p w) (hs : slim t) (hg : goodB t = b) : Calls Try.prog 38 #[.agg #[.int .i64 t.kind, .int .i64 t.n, .string t.name, .slice t.at_.1 t.args.length t.at_.2]] w fun e w' => e = .returned (.bool b) ∧ Turned (fun _ => False) w w' := by
  have h := good38 ht hs
  rw [LT.val_eq, hg] at h
  exact h
theorem sameVal' {p : Nat → Prop} {a b : LT} {w : World} {r : Bool} (ha : a.In p w) (hb : b.In p w) (sa : slim a) (sb : slim b) (hr : sameB a b = r) : Calls Try.prog 52 #[.agg #[.int .i64 a.kind, .int .i64 a.n, .string a.name, .slice a.at_.1 a.args.length a.at_.2], .agg #[.int .i64 b.kind, .int .i64 b.n, .string b.name, .slice b.at_.1 b.args.length b.at_.2]] w fun e w' => e = .returned (.bool r) ∧ Turned (fun _ => False) w w' := by
  have h := same52 ha hb sa sb
  rw [LT.val_eq a, LT.val_eq b, hr] at h
  exact h
theorem moreVal {p : Nat → Prop} {a b : LT} {w : World} {r : Bool} (ha : a.In p w) (hb : b.In p w) (sa : slim a) (sb : slim b) (hr : moreB a b = r) : Calls Try.prog 78 #[.agg #[.int .i64 a.kind, .int .i64 a.n, .string a.name, .slice a.at_.1 a.args.length a.at_.2], .agg #[.int .i64 b.kind, .int .i64 b.n, .string b.name, .slice b.at_.1 b.args.length b.at_.2]] w fun e w' => e = .returned (.bool r) ∧ Turned (fun _ => False) w w' := by
  have h := more78 ha hb sa sb
  rw [LT.val_eq a, LT.val_eq b, hr] at h
  exact h
theorem alikeVal {p : Nat → Prop} {a b : LT} {w : World} {r : Bool} (ha : a.In p w) (hb : b.In p w) (sa : slim a) (sb : slim b) (hr : alikeB a b = r) : Calls Try.prog 72 #[.agg #[.int .i64 a.kind, .int .i64 a.n, .string a.name, .slice a.at_.1 a.args.length a.at_.2], .agg #[.int .i64 b.kind, .int .i64 b.n, .string b.name, .slice b.at_.1 b.args.length b.at_.2]] w fun e w' => e = .returned (.bool r) ∧ Turned (fun _ => False) w w' := by
  have h := alike72 ha hb sa sb
  rw [LT.val_eq a, LT.val_eq b, hr] at h
  exact h
theorem groundVal {p : Nat → Prop} {t : LT} {w : World} {r : Bool} (ht : t.In p w) (hs : slim t) (hr : (goodB t && decide (t.vars = [])) = r) : Calls Try.prog 73 #[.agg #[.int .i64 t.kind, .int .i64 t.n, .string t.name, .slice t.at_.1 t.args.length t.at_.2]] w fun e w' => e = .returned (.bool r) ∧ Turned (fun _ => False) w w' := by
  have h := ground73 ht hs
  rw [LT.val_eq, hr] at h
  exact h
theorem deepVal (k : Nat) (t : LT) (W : World) (n : Int) (hn : n = (k : Int)) (hk : k ≤ 1000) (h : t.In (fun _ => True) W) : Calls Try.prog 70 #[.agg #[.int .i64 t.kind, .int .i64 t.n, .string t.name, .slice t.at_.1 t.args.length t.at_.2], .int .i64 n] W fun e w' => e = .returned (.bool (deepB k t)) ∧ Turned (fun _ => False) W w' := by
  subst hn
  have := deep70 (fun _ => True) k t W hk h
  rw [LT.val_eq] at this
  exact this
def Aw13 (wz : World) : List Value → World → Prop
  | [], W => Turned (fun _ => False) wz W
  | [v], W => Turned (fun _ => False) wz W ∧ ∃ g : Nat, v = .slice (some ⟨g, 0, none⟩) 3 3 ∧ LT.Sl (fun _ => True) W (some ⟨g, 0, none⟩) 3 [leaf 0 0 ByteArray.empty, leaf 0 1 ByteArray.empty, leaf 0 0 ByteArray.empty]
  | [_, v], W => Turned (fun _ => False) wz W ∧ ∃ u : LT, v = u.val ∧ u.bare = pT ∧ u.In (fun _ => True) W
  | _, _ => False
theorem Aw13.turned {wz : World} : ∀ (hs : List Value) (W : World), Aw13 wz hs W → Turned (fun _ => False) wz W
  | [], _, h => h
  | [_], _, h => h.1
  | [_, _], _, h => h.1
  | _ :: _ :: _ :: _, _, h => h.elim
theorem Aw13.turned0 {wz : World} : ∀ (hs : List Value) (w w' : World), Aw13 wz hs w → Turned (fun _ => False) w w' → Aw13 wz hs w'
  | [], _, _, h, ht => Turned.trans h ht
  | [_], _, _, h, ht => by obtain ⟨h1, g, h2, h3⟩ := h; exact ⟨h1.trans ht, g, h2, h3.turned0 ht⟩
  | [_, _], _, _, h, ht => by obtain ⟨h1, u, h2, h3, h4⟩ := h; exact ⟨h1.trans ht, u, h2, h3, h4.turned0 ht⟩
  | _ :: _ :: _ :: _, _, _, h, _ => h.elim
theorem Aw13.at1 {wz W : World} {hs : List Value} (h : Aw13 wz hs W) {v : Value} (hv : hs[1]? = some v) : ∃ u : LT, v = u.val ∧ u.bare = pT ∧ u.In (fun _ => True) W := by
  match hs, h, hv with
  | [_, _], h, hv => simp at hv; subst hv; exact h.2
set_option maxRecDepth 100000 in
set_option maxHeartbeats 3200000 in
theorem awake69 (w : World) : Calls Try.prog 69 #[] w fun e w' => e = .returned (.bool true) ∧ Turned (fun _ => False) w w' := by
  go_enter Try.func69, Try.ntmps69
  go_wp2_with (first
    | (go_at_call 81; refine (plainGood (t := .mk 2 0 ⟨#[102]⟩ (a4, c4) [leaf 0 7 ByteArray.empty, leaf 0 3 ByteArray.empty, leaf 0 7 ByteArray.empty]) i4 (by kernel_rfl)).mono ?_; rintro e W5 ⟨u, rfl, hub, hui, T5⟩)
    | (go_at_call 37; have := T3; refine (compV ⟨#[102]⟩ (by unfold maxLen; decide) 3 (by decide) rfl (sl_made (l := [leaf 0 7 ByteArray.empty, leaf 0 3 ByteArray.empty, leaf 0 7 ByteArray.empty]) ⟨i1.turned0 (T2.trans T3), i2.turned0 T3, i3, trivial⟩ 3 (by decide) rfl _ rfl)).mono ?_; rintro e W4 ⟨a4, c4, rfl, i4, T4⟩)
    | (go_at_call 62; have := T2; refine (varV 7 (i64_lit _ (by omega)) _).mono ?_; rintro e W3 ⟨rfl, i3, T3⟩)
    | (go_at_call 62; have := T1; refine (varV 3 (i64_lit _ (by omega)) _).mono ?_; rintro e W2 ⟨rfl, i2, T2⟩)
    | (go_at_call 62; refine (varV 7 (i64_lit _ (by omega)) _).mono ?_; rintro e W1 ⟨rfl, i1, T1⟩))
  have hup : u.bare = pT := hub.trans (by kernel_rfl)
  have TZ : Turned (fun _ => False) w (W5.alloc (.cells #[.int .i64 u.kind, .int .i64 u.n, .string u.name, .slice u.at_.1 u.args.length u.at_.2] 27)) := (T1.trans (T2.trans (T3.trans (((Turned.refl _ W3).alloc _).trans (T4.trans T5))))).alloc _
  obtain ⟨d0, d1, d2, d3, _⟩ := boxAt (Turned.refl (fun _ => False) (W5.alloc (.cells #[.int .i64 u.kind, .int .i64 u.n, .string u.name, .slice u.at_.1 u.args.length u.at_.2] 27)))
  have hu2 := hui.turned0 ((Turned.refl (fun _ => False) W5).alloc (.cells #[.int .i64 u.kind, .int .i64 u.n, .string u.name, .slice u.at_.1 u.args.length u.at_.2] 27))
  have HTB := And.intro (Lib.hid TZ) (And.intro d0 (And.intro d1 (And.intro d2 (And.intro d3 (Lib.hid hu2)))))
  have HUP := Lib.hid hup
  clear hup TZ d0 d1 d2 d3 hu2 hui hub T1 T2 T3 T4 T5 i1 i2 i3 i4
  revert HTB
  generalize W5.alloc (.cells #[.int .i64 u.kind, .int .i64 u.n, .string u.name, .slice u.at_.1 u.args.length u.at_.2] 27) = wz
  generalize W5.heap.size = B1
  intro HTB
  obtain ⟨HTZ, d0, d1, d2, d3, HU⟩ := HTB
  obtain ⟨B13, HB13⟩ : ∃ B, Hid (B = ((0 : Int) == 0)) := ⟨_, rfl⟩
  obtain ⟨B22, HB22⟩ : ∃ B, Hid (B = (B13 && true)) := ⟨_, rfl⟩
  obtain ⟨B26, HB26⟩ : ∃ B, Hid (B = (B22 && true)) := ⟨_, rfl⟩
  have hB13 : B13 = true := by rw [HB13.out]; rfl
  have hB26 : B26 = true := by rw [HB26.out, HB22.out, hB13]; rfl
  refine wp_region_hsW [12, 13, 14, 15, 16, 17, 18, 19, 20, 21, 22, 23, 24, 25, 26, 0] [7, 8] [0, 0, 0, 2, 0, 0, 0, 1, 2, 2, 2, 2, 2, 2, 2, 2] [19, 20] (fun d v => (match d with | 12 => v = .int .i64 0 | 13 => v = .bool B13 | 14 => v = .bool B13 | 15 => v = bif (true && (B13 == true)) then .agg #[.int .i64 u.kind, .int .i64 u.n, .string u.name, .slice u.at_.1 u.args.length u.at_.2] else undef | 16 => v = bif (true && (B13 == true)) then .agg #[.int .i64 0, .int .i64 0, .string ByteArray.empty, .slice none 0 0] else undef | 17 => v = bif (true && (B13 == true)) then .agg #[.int .i64 0, .int .i64 1, .string ByteArray.empty, .slice none 0 0] else undef | 18 => v = bif (true && (B13 == true)) then .agg #[.int .i64 0, .int .i64 0, .string ByteArray.empty, .slice none 0 0] else undef | 21 => v = bif (true && (B13 == true)) then .bool true else undef | 22 => v = .bool B22 | 23 => v = .bool B22 | 24 => v = bif (true && (B22 == true)) then .agg #[.int .i64 1, .int .i64 1, .string ByteArray.empty, .slice none 0 0] else undef | 25 => v = bif (true && (B22 == true)) then .bool true else undef | 26 => v = .bool B26 | 0 => v = .bool B26 | _ => True : Prop)) (Aw13 wz) (by kernel_rfl) rfl (by kernel_rfl) (by kernel_rfl) (by kernel_rfl) (by kernel_rfl) (fun _ h => h) (fun hs w w' h ht => Aw13.turned0 hs w w' h ht) ?hs ?hQ
  case hs =>
    refine ⟨?s0, ?s1, ?s2, ?s3, ?s4, ?s5, ?s6, ?s7, ?s8, ?s9, ?s10, ?s11, ?s12, ?s13, ?s14, ?s15, trivial⟩
    case s0 =>
      refine fun hs hle => stepG_free [] [2] (by kernel_rfl) rfl ?_
      · intro ac W hT hI hO
        have hle : hs.length ≤ 0 := hle
        have h2 : ac.tmps.getD 2 undef = .int .i64 0 := hO 2 (by simp)
        show Brings Try.prog (fun v w' => Turned (fun _ => False) W w' ∧ v = .int .i64 0) _
        simp only [execOp, Act.eval, h2]
        go_simp
        try exact ⟨Turned.refl _ _, rfl⟩
    case s1 =>
      refine fun hs hle => stepG_free [12] [] (by kernel_rfl) rfl ?_
      · intro ac W hT hI hO
        have hle : hs.length ≤ 0 := hle
        have h12 : ac.tmps.getD 12 undef = .int .i64 0 := hI 12 (by simp)
        show Brings Try.prog (fun v w' => Turned (fun _ => False) W w' ∧ v = .bool B13) _
        rw [HB13.out]
        simp only [execOp, Act.eval, h12]
        go_simp
        try exact ⟨Turned.refl _ _, rfl⟩
    case s2 =>
      refine fun hs hle => stepG_free [13] [] (by kernel_rfl) rfl ?_
      · intro ac W hT hI hO
        have hle : hs.length ≤ 0 := hle
        have h13 : ac.tmps.getD 13 undef = .bool B13 := hI 13 (by simp)
        show Brings Try.prog (fun v w' => Turned (fun _ => False) W w' ∧ v = .bool B13) _
        simp only [execOp, Act.eval, h13]
        go_simp
        try exact ⟨Turned.refl _ _, rfl⟩
    case s3 =>
      refine fun hs hle => stepG_guard [14] [1] (by kernel_rfl) 2 true 14 rfl rfl (by simp) true B13 (fun _ _ h => h) (fun hc => ?_) (fun hc _ _ => ?_)
      rotate_left
      · refine ⟨Turned.refl _ _, ?_⟩
        show undef = bif (true && (B13 == true)) then _ else undef
        rw [hc]; rfl
      · intro ac W hT hI hO
        have hle : hs.length ≤ 2 := hle
        have h14 : ac.tmps.getD 14 undef = .bool B13 := hI 14 (by simp)
        have h1 : ac.tmps.getD 1 undef = .pointer (some ⟨B1, 0, none⟩) := hO 1 (by simp)
        show Brings Try.prog (fun v w' => Turned (fun _ => False) W w' ∧ v = bif (true && (B13 == true)) then .agg #[.int .i64 u.kind, .int .i64 u.n, .string u.name, .slice u.at_.1 u.args.length u.at_.2] else undef) _
        rw [hc, cond_true]
        have Tq := Aw13.turned hs W hT; have d0 := Tq.cell0 d0; have d1 := Tq.cell0 d1; have d2 := Tq.cell0 d2; have d3 := Tq.cell0 d3
        simp only [execOp, Act.eval, h14, h1]
        go_simp
        exact ⟨Turned.refl _ _, rfl⟩
    case s4 =>
      refine fun hs hle => stepG_guard [14] [] (by kernel_rfl) 2 true 14 rfl rfl (by simp) true B13 (fun _ _ h => h) (fun hc => ?_) (fun hc _ _ => ?_)
      rotate_left
      · refine ⟨Turned.refl _ _, ?_⟩
        show undef = bif (true && (B13 == true)) then _ else undef
        rw [hc]; rfl
      · intro ac W hT hI hO
        have hle : hs.length ≤ 0 := hle
        have h14 : ac.tmps.getD 14 undef = .bool B13 := hI 14 (by simp)
        show Brings Try.prog (fun v w' => Turned (fun _ => False) W w' ∧ v = bif (true && (B13 == true)) then .agg #[.int .i64 0, .int .i64 0, .string ByteArray.empty, .slice none 0 0] else undef) _
        rw [hc, cond_true]
        simp only [execOp, Act.eval, h14]
        go_simp
        show Calls Try.prog 62 _ W _
        refine (varV 0 (i64_lit _ (by omega)) W).mono ?_
        rintro e w' ⟨rfl, _, T'⟩
        exact ⟨_, rfl, T', rfl⟩
    case s5 =>
      refine fun hs hle => stepG_guard [14] [] (by kernel_rfl) 2 true 14 rfl rfl (by simp) true B13 (fun _ _ h => h) (fun hc => ?_) (fun hc _ _ => ?_)
      rotate_left
      · refine ⟨Turned.refl _ _, ?_⟩
        show undef = bif (true && (B13 == true)) then _ else undef
        rw [hc]; rfl
      · intro ac W hT hI hO
        have hle : hs.length ≤ 0 := hle
        have h14 : ac.tmps.getD 14 undef = .bool B13 := hI 14 (by simp)
        show Brings Try.prog (fun v w' => Turned (fun _ => False) W w' ∧ v = bif (true && (B13 == true)) then .agg #[.int .i64 0, .int .i64 1, .string ByteArray.empty, .slice none 0 0] else undef) _
        rw [hc, cond_true]
        simp only [execOp, Act.eval, h14]
        go_simp
        show Calls Try.prog 62 _ W _
        refine (varV 1 (i64_lit _ (by omega)) W).mono ?_
        rintro e w' ⟨rfl, _, T'⟩
        exact ⟨_, rfl, T', rfl⟩
    case s6 =>
      refine fun hs hle => stepG_guard [14] [] (by kernel_rfl) 2 true 14 rfl rfl (by simp) true B13 (fun _ _ h => h) (fun hc => ?_) (fun hc _ _ => ?_)
      rotate_left
      · refine ⟨Turned.refl _ _, ?_⟩
        show undef = bif (true && (B13 == true)) then _ else undef
        rw [hc]; rfl
      · intro ac W hT hI hO
        have hle : hs.length ≤ 0 := hle
        have h14 : ac.tmps.getD 14 undef = .bool B13 := hI 14 (by simp)
        show Brings Try.prog (fun v w' => Turned (fun _ => False) W w' ∧ v = bif (true && (B13 == true)) then .agg #[.int .i64 0, .int .i64 0, .string ByteArray.empty, .slice none 0 0] else undef) _
        rw [hc, cond_true]
        simp only [execOp, Act.eval, h14]
        go_simp
        show Calls Try.prog 62 _ W _
        refine (varV 0 (i64_lit _ (by omega)) W).mono ?_
        rintro e w' ⟨rfl, _, T'⟩
        exact ⟨_, rfl, T', rfl⟩
    case s7 =>
      refine fun hs hlen => stepG_guard [16, 17, 18, 14] [] (by kernel_rfl) 2 true 14 rfl rfl (by simp) true B13 (fun _ _ h => h) (fun hc => ?_) (fun hc _ _ => ?_)
      rotate_left
      · exact absurd hc (by rw [hB13]; decide)
      · intro ac W hT hI hO
        have h16 : ac.tmps.getD 16 undef = bif (true && (B13 == true)) then .agg #[.int .i64 0, .int .i64 0, .string ByteArray.empty, .slice none 0 0] else undef := hI 16 (by simp)
        rw [hc, cond_true] at h16
        have h17 : ac.tmps.getD 17 undef = bif (true && (B13 == true)) then .agg #[.int .i64 0, .int .i64 1, .string ByteArray.empty, .slice none 0 0] else undef := hI 17 (by simp)
        rw [hc, cond_true] at h17
        have h18 : ac.tmps.getD 18 undef = bif (true && (B13 == true)) then .agg #[.int .i64 0, .int .i64 0, .string ByteArray.empty, .slice none 0 0] else undef := hI 18 (by simp)
        rw [hc, cond_true] at h18
        have h14 : ac.tmps.getD 14 undef = .bool B13 := hI 14 (by simp)
        show Brings Try.prog (fun v w' => Aw13 wz (hs ++ [v]) w') _
        obtain rfl : hs = [] := List.eq_nil_of_length_eq_zero hlen
        replace hT : Turned (fun _ => False) wz W := hT
        have h16' : ac.tmps[16]?.getD undef = .agg #[.int .i64 0, .int .i64 0, .string ByteArray.empty, .slice none 0 0] := by rw [← Array.getD_eq_getD_getElem?]; exact h16
        have h17' : ac.tmps[17]?.getD undef = .agg #[.int .i64 0, .int .i64 1, .string ByteArray.empty, .slice none 0 0] := by rw [← Array.getD_eq_getD_getElem?]; exact h17
        have h18' : ac.tmps[18]?.getD undef = .agg #[.int .i64 0, .int .i64 0, .string ByteArray.empty, .slice none 0 0] := by rw [← Array.getD_eq_getD_getElem?]; exact h18
        simp only [execOp, Act.eval, h16, h17, h18, h14]
        go_simp
        refine ⟨hT.alloc _, W.heap.size, rfl, ?_⟩
        have li : ∀ n : Int, (-10 ≤ n ∧ n ≤ 10) → (leaf 0 n ByteArray.empty).In (fun _ => True) W := fun n hn => leafIn' (i64_lit _ (by omega)) (i64_lit _ (by omega)) (by unfold maxLen; decide)
        exact sl_made (w := W) (l := [leaf 0 0 ByteArray.empty, leaf 0 1 ByteArray.empty, leaf 0 0 ByteArray.empty]) ⟨li _ (by omega), li _ (by omega), li _ (by omega), trivial⟩ 3 (by decide) rfl _ rfl
    case s8 =>
      refine fun hs hlen => stepG_guard [19, 14] [] (by kernel_rfl) 2 true 14 rfl rfl (by simp) true B13 (fun _ _ h => h) (fun hc => ?_) (fun hc _ _ => ?_)
      rotate_left
      · exact absurd hc (by rw [hB13]; decide)
      · intro ac W hT hI hO
        have h19 : hs[0]? = some (ac.tmps.getD 19 undef) := hI 19 (by simp)
        have h14 : ac.tmps.getD 14 undef = .bool B13 := hI 14 (by simp)
        show Brings Try.prog (fun v w' => Aw13 wz (hs ++ [v]) w') _
        obtain ⟨v0, rfl⟩ := List.length_eq_one_iff.1 hlen
        obtain ⟨hT1, g, rfl, hsl⟩ := hT
        replace h19 : ac.tmps.getD 19 undef = .slice (some ⟨g, 0, none⟩) 3 3 := by simpa using h19.symm
        simp only [execOp, Act.eval, h19]
        go_simp
        show Calls Try.prog 37 _ W _
        refine (compV ⟨#[102]⟩ (by unfold maxLen; decide) 3 (by decide) rfl hsl).mono ?_
        rintro e w' ⟨a', c', rfl, hi, T'⟩
        exact ⟨_, rfl, hT1.trans T', .mk 2 0 ⟨#[102]⟩ (a', c') [leaf 0 0 ByteArray.empty, leaf 0 1 ByteArray.empty, leaf 0 0 ByteArray.empty], rfl, rfl, hi⟩
    case s9 =>
      refine fun hs hle => stepG_guard [15, 20, 14] [] (by kernel_rfl) 2 true 14 rfl rfl (by simp) true B13 (fun _ _ h => h) (fun hc => ?_) (fun hc _ _ => ?_)
      rotate_left
      · refine ⟨Turned.refl _ _, ?_⟩
        show undef = bif (true && (B13 == true)) then _ else undef
        rw [hc]; rfl
      · intro ac W hT hI hO
        have hle : hs.length ≤ 2 := hle
        have h15 : ac.tmps.getD 15 undef = bif (true && (B13 == true)) then .agg #[.int .i64 u.kind, .int .i64 u.n, .string u.name, .slice u.at_.1 u.args.length u.at_.2] else undef := hI 15 (by simp)
        rw [hc, cond_true] at h15
        have h20 : hs[1]? = some (ac.tmps.getD 20 undef) := hI 20 (by simp)
        have h14 : ac.tmps.getD 14 undef = .bool B13 := hI 14 (by simp)
        show Brings Try.prog (fun v w' => Turned (fun _ => False) W w' ∧ v = bif (true && (B13 == true)) then .bool true else undef) _
        rw [hc, cond_true]
        obtain ⟨z, ez, hzb, hzi⟩ := Aw13.at1 hT h20
        rw [LT.val_eq] at ez
        have Tq := Aw13.turned hs W hT
        have hgu : goodB u = true := by rw [← goodB_bare, HUP.out]; exact pT_good
        have hgz : goodB z = true := by rw [← goodB_bare, hzb]; exact pT_good
        have hsv := sameVal' (r := true) (HU.out.turned0 Tq) hzi (good_slim hgu) (good_slim hgz) (sameB_of (HUP.out.trans hzb.symm) hgu)
        simp only [execOp, Act.eval, ez, h15]
        go_simp
        show Calls Try.prog 52 _ W _
        (with_reducible refine hsv.mono ?_)
        rintro e w' ⟨rfl, T'⟩
        exact ⟨_, rfl, T', rfl⟩
    case s10 =>
      refine fun hs hle => stepG_free [14, 21] [] (by kernel_rfl) rfl ?_
      · intro ac W hT hI hO
        have hle : hs.length ≤ 2 := hle
        have h14 : ac.tmps.getD 14 undef = .bool B13 := hI 14 (by simp)
        have h21 : ac.tmps.getD 21 undef = bif (true && (B13 == true)) then .bool true else undef := hI 21 (by simp)
        show Brings Try.prog (fun v w' => Turned (fun _ => False) W w' ∧ v = .bool B22) _
        rw [HB22.out]
        cases hB : B13
        · simp only [hB] at *
          simp [execOp, Act.eval, go_sem, Brings, h14, h21]
          try exact Turned.refl _ _
        · simp only [hB] at *
          simp [execOp, Act.eval, go_sem, Brings, h14, h21]
          try exact Turned.refl _ _
    case s11 =>
      refine fun hs hle => stepG_free [22] [] (by kernel_rfl) rfl ?_
      · intro ac W hT hI hO
        have hle : hs.length ≤ 2 := hle
        have h22 : ac.tmps.getD 22 undef = .bool B22 := hI 22 (by simp)
        show Brings Try.prog (fun v w' => Turned (fun _ => False) W w' ∧ v = .bool B22) _
        simp only [execOp, Act.eval, h22]
        go_simp
        try exact ⟨Turned.refl _ _, rfl⟩
    case s12 =>
      refine fun hs hle => stepG_guard [23] [] (by kernel_rfl) 11 true 23 rfl rfl (by simp) true B22 (fun _ _ h => h) (fun hc => ?_) (fun hc _ _ => ?_)
      rotate_left
      · refine ⟨Turned.refl _ _, ?_⟩
        show undef = bif (true && (B22 == true)) then _ else undef
        rw [hc]; rfl
      · intro ac W hT hI hO
        have hle : hs.length ≤ 2 := hle
        have h23 : ac.tmps.getD 23 undef = .bool B22 := hI 23 (by simp)
        show Brings Try.prog (fun v w' => Turned (fun _ => False) W w' ∧ v = bif (true && (B22 == true)) then .agg #[.int .i64 1, .int .i64 1, .string ByteArray.empty, .slice none 0 0] else undef) _
        rw [hc, cond_true]
        simp only [execOp, Act.eval, h23]
        go_simp
        show Calls Try.prog 61 _ W _
        refine (intV 1 (i64_lit _ (by omega)) W).mono ?_
        rintro e w' ⟨rfl, _, T'⟩
        exact ⟨_, rfl, T', rfl⟩
    case s13 =>
      refine fun hs hle => stepG_guard [24, 23] [] (by kernel_rfl) 11 true 23 rfl rfl (by simp) true B22 (fun _ _ h => h) (fun hc => ?_) (fun hc _ _ => ?_)
      rotate_left
      · refine ⟨Turned.refl _ _, ?_⟩
        show undef = bif (true && (B22 == true)) then _ else undef
        rw [hc]; rfl
      · intro ac W hT hI hO
        have hle : hs.length ≤ 2 := hle
        have h24 : ac.tmps.getD 24 undef = bif (true && (B22 == true)) then .agg #[.int .i64 1, .int .i64 1, .string ByteArray.empty, .slice none 0 0] else undef := hI 24 (by simp)
        rw [hc, cond_true] at h24
        have h23 : ac.tmps.getD 23 undef = .bool B22 := hI 23 (by simp)
        show Brings Try.prog (fun v w' => Turned (fun _ => False) W w' ∧ v = bif (true && (B22 == true)) then .bool true else undef) _
        rw [hc, cond_true]
        have hgr : Calls Try.prog 73 #[.agg #[.int .i64 1, .int .i64 1, .string ByteArray.empty, .slice none 0 0]] W fun e w' => e = .returned (.bool true) ∧ Turned (fun _ => False) W w' := groundVal (p := fun _ => True) (t := leaf 1 1 ByteArray.empty) (leafIn' (i64_lit _ (by omega)) (i64_lit _ (by omega)) (by unfold maxLen; decide)) (leafSlim' _ _ _) (by kernel_rfl)
        simp only [execOp, Act.eval, h24, h23]
        go_simp
        show Calls Try.prog 73 _ W _
        (with_reducible refine hgr.mono ?_)
        rintro e w' ⟨rfl, T'⟩
        exact ⟨_, rfl, T', rfl⟩
    case s14 =>
      refine fun hs hle => stepG_free [23, 25] [] (by kernel_rfl) rfl ?_
      · intro ac W hT hI hO
        have hle : hs.length ≤ 2 := hle
        have h23 : ac.tmps.getD 23 undef = .bool B22 := hI 23 (by simp)
        have h25 : ac.tmps.getD 25 undef = bif (true && (B22 == true)) then .bool true else undef := hI 25 (by simp)
        show Brings Try.prog (fun v w' => Turned (fun _ => False) W w' ∧ v = .bool B26) _
        rw [HB26.out]
        cases hB : B22
        · simp only [hB] at *
          simp [execOp, Act.eval, go_sem, Brings, h23, h25]
          try exact Turned.refl _ _
        · simp only [hB] at *
          simp [execOp, Act.eval, go_sem, Brings, h23, h25]
          try exact Turned.refl _ _
    case s15 =>
      refine fun hs hle => stepG_free [26] [] (by kernel_rfl) rfl ?_
      · intro ac W hT hI hO
        have hle : hs.length ≤ 2 := hle
        have h26 : ac.tmps.getD 26 undef = .bool B26 := hI 26 (by simp)
        show Brings Try.prog (fun v w' => Turned (fun _ => False) W w' ∧ v = .bool B26) _
        simp only [execOp, Act.eval, h26]
        go_simp
        try exact ⟨Turned.refl _ _, rfl⟩
  case hQ =>
    intro hs vq w9 hlen hR hV
    have q0 : vq 0 = .bool B26 := hV 0 (by simp)
    rw [hB26] at q0
    have T9 := Aw13.turned hs w9 hR
    simp only [List.foldl_cons, List.foldl_nil, List.setIfInBounds_toArray, List.set_cons_zero, List.set_cons_succ, q0]
    clear hV q0 hlen hR hs
    go_wp2_with fail
    go_ret
    exact ⟨rfl, HTZ.out.trans T9⟩
end Go.Proofs.Ytoihjobdfjajfaa

/- Chapter 11's awake. -/
namespace Go.Proofs.Ytoihjobdfjajfaa
set_option linter.unusedVariables false
set_option linter.unusedSimpArgs false
open Go.RowKit Go.Maps
abbrev atA : LT := leaf 2 0 ⟨#[97]⟩
theorem leaf_slim (k n : Int) (s : ByteArray) : slim (leaf k n s) := by
  intro x hx
  simp only [leaf, Tm.flat, Tm.flats, List.mem_cons, List.not_mem_nil, or_false] at hx
  subst hx
  simp [Tm.args]
theorem atA_in {p : Nat → Prop} {w : World} : atA.In p w := leafIn' (i64_lit _ (by omega)) (i64_lit _ (by omega)) (by unfold maxLen; decide)
theorem var_in {p : Nat → Prop} {w : World} {n : Int} (h : I64 n) : (leaf 0 n ByteArray.empty).In p w := leafIn' (i64_lit _ (by omega)) h (by unfold maxLen; decide)
theorem awSetE : Tm.setE 1 (bt []) 0 atA.bare = 0 := by kernel_rfl
theorem atA_good : goodB atA.bare = true := by kernel_rfl
theorem sameB_eq {α β : Type} {a : Tm α} {b : Tm β} (h : a.bare = b.bare) (hg : goodB a.bare = true) : sameB a b = true := by
  unfold sameB
  have h1 : goodB a = true := by rw [← goodB_bare]; exact hg
  have h2 : goodB b = true := by rw [← goodB_bare, ← h]; exact hg
  rw [h1, h2, (Tm.same_iff a b).2 h]
  rfl
set_option maxRecDepth 10000 in
theorem aw_same {p : Nat → Prop} {w : World} {x : LT} (hx : x.In p w) (hb : x.bare = atA.bare) :
    Calls Try.prog 52 #[.agg #[.int .i64 x.kind, .int .i64 x.n, .string x.name, .slice x.at_.1 x.args.length x.at_.2], .agg #[.int .i64 2, .int .i64 0, .string ⟨#[97]⟩, .slice none 0 0]] w fun e w' => e = .returned (.bool true) ∧ Turned (fun _ => False) w w' :=
  sameVal' (p := p) (a := x) (b := atA) (w := w) (r := true) hx atA_in (slim_eq' hb.symm (leaf_slim _ _ _)) (leaf_slim _ _ _) (sameB_eq hb (by rw [hb]; exact atA_good))
section
variable {p : Nat → Prop} {bb sb m : Nat} {lv tv : Value} {l : TL} {w w' : World} {t : LT}
theorem aw_set (h : BI p bb sb lv tv 1 [] w) :
    Calls Try.prog 88 #[.pointer (some ⟨bb, 0, none⟩), .int .i64 0, .agg #[.int .i64 2, .int .i64 0, .string ⟨#[97]⟩, .slice none 0 0]] w fun e w' => e = .returned (.int .i64 0) ∧ ∃ tv' c y, BI p bb sb lv tv' 1 [(0, c, y)] w' ∧ y.bare = atA.bare ∧ Turned (fun k => k = sb ∨ lv.ownBlock = some k ∨ tv.ownBlock = some k) w w' := by
  refine (set88 h (t := atA) atA_in (leaf_slim _ _ _) 0 (i64_lit _ (by omega))).mono ?_
  rintro e w' ⟨rfl, ⟨tv', l', B, E, _, _⟩, T⟩
  rw [awSetE, if_pos rfl] at E
  refine ⟨by rw [awSetE], tv', ?_⟩
  have hl := congrArg List.length E
  rw [bt_length] at hl
  obtain ⟨⟨i, c, y⟩, rfl⟩ := List.length_eq_one_iff.1 hl
  simp only [bt, List.map_cons, List.map_nil, List.cons.injEq, Prod.mk.injEq, and_true] at E
  obtain ⟨rfl, e2⟩ := E
  exact ⟨c, y, B, e2, T⟩
theorem aw_walk {c : Nat} {y : LT} (h : BI p bb sb lv tv 1 [(0, c, y)] w) (hy : y.bare = atA.bare) :
    Calls Try.prog 90 #[.pointer (some ⟨bb, 0, none⟩), .agg #[.int .i64 0, .int .i64 0, .string ⟨#[]⟩, .slice none 0 0]] w fun e w' => ∃ x : LT, e = .returned x.val ∧ x.In p w' ∧ x.bare = atA.bare ∧ Turned (fun _ => False) w w' := by
  have hg : goodB (leaf 0 0 ByteArray.empty).bare = true := by kernel_rfl
  refine (walk90 h (t := leaf 0 0 ByteArray.empty) (var_in (i64_lit _ (by omega))) (Tm.good_ones' hg)).mono ?_
  rintro e w' ⟨x, rfl, hx, hb, T⟩
  refine ⟨x, rfl, hx, ?_, T⟩
  rw [hb, Tm.walkT_step h.ok (p := atA.bare) rfl (by show Tm.look [(0, y.bare)] 0 = _; rw [hy]; rfl), Tm.walkT_stop]
  intro e
  cases e
end
set_option maxRecDepth 100000 in
set_option maxHeartbeats 3200000 in
theorem awake84 (w : World) : Calls Try.prog 84 #[] w fun e w' => e = .returned (.bool true) ∧ Turned (fun _ => False) w w' := by
  go_enter Try.func84, Try.ntmps84
  go_wp2_with (first
    | (go_at_call 86; (with_reducible refine (newB86 (p := fun _ => False) _ (fun _ f => f.elim)).mono ?_); rintro e w1 ⟨rfl, B1, T1⟩; have HB1 := Lib.hid B1; clear B1)
    | (go_at_call 87; (with_reducible refine (fresh87 HB1.out (by omega)).mono ?_); rintro e w2 ⟨rfl, ⟨lv, B2, O2⟩, T2⟩; have HB2 := Lib.hid B2; have HO2 := Lib.hid O2; have HT2 := Lib.hid T2; clear B2 O2 T2)
    | (go_at_call 63; have hq := HX6.out; (with_reducible refine (atomV _ (by unfold maxLen; decide) _).mono ?_); rintro e w7 ⟨rfl, I7, T7⟩; have HX7 := Lib.hid (hq.1.turned0 T7); have HB7 := Lib.hid (hq.2.2.turned0 T7); have HT7 := Lib.hid T7; clear I7 T7 hq)
    | (go_at_call 63; (with_reducible refine (atomV _ (by unfold maxLen; decide) _).mono ?_); rintro e w3 ⟨rfl, I3, T3⟩; have HB3 := Lib.hid (HB2.out.turned0 (((Turned.refl (fun _ => False) w2).alloc (.cells #[.int .i64 0, .int .i64 0, .string ⟨#[]⟩, .slice none 0 0] 27)).trans T3)); have hbx := (T3.block w2.heap.size (by simp) (fun f => f)).trans (heap_alloc_new w2 (.cells #[.int .i64 0, .int .i64 0, .string ⟨#[]⟩, .slice none 0 0] 27)); have HBX := Lib.hid hbx; have HT3 := Lib.hid T3; clear I3 T3 hbx)
    | (go_at_call 88; (with_reducible refine (aw_set HB3.out).mono ?_); rintro e w4 ⟨rfl, tv4, c4, y4, B4, E4, T4⟩; have HB4 := Lib.hid B4; have hx4 := (T4.block w2.heap.size (Array.getElem?_eq_some_iff.1 HBX.out).1 (fun e => by have := HB2.out.own_lt w2.heap.size (e.elim (fun e => .inr (.inl e)) (fun e => .inr (.inr e))); omega)).trans HBX.out; obtain ⟨c0, c1, c2, c3, _⟩ := cells4 hx4; have HE4 := Lib.hid E4; have HT4 := Lib.hid T4; clear B4 E4 T4 hx4)
    | (go_at_call 90; (with_reducible refine (aw_walk HB4.out HE4.out).mono ?_); rintro e w6 ⟨x, rfl, hx6, hxb, T6⟩; rw [LT.val_eq]; have HX6 := Lib.hid (And.intro hx6 (And.intro hxb (HB4.out.turned0 T6))); have HT6 := Lib.hid T6; clear hx6 hxb T6)
    | (go_at_call 52; (with_reducible refine (aw_same HX7.out HX6.out.2.1).mono ?_); rintro e w8 ⟨rfl, T8⟩; have HB8 := Lib.hid (HB7.out.turned0 T8); have HT8 := Lib.hid T8; clear T8)
    | (go_at_call 111; (with_reducible refine (mark111 HB8.out).mono ?_); rintro e w9 ⟨rfl, T9⟩; have HB9 := Lib.hid (HB8.out.turned0 T9); have HT9 := Lib.hid T9; clear T9)
    | (go_at_call 107; (with_reducible refine (len107 HB9.out).mono ?_); rintro e w10 ⟨rfl, T10⟩; have HT10 := Lib.hid T10; clear T10))
  go_ret
  have hsz : w.heap.size ≤ w1.heap.size := T1.size
  have hlv : ∀ k, lv.ownBlock = some k → w.heap.size ≤ k := fun k hk => by
    rcases HO2.out with e | e
    · rw [e] at hk; simp [Value.ownBlock] at hk
    · have := e k hk; omega
  refine ⟨rfl, ?_⟩
  have R2 := T1.step HT2.out (fun i hi e => by
    rcases e with e | e
    · omega
    · simp [Value.ownBlock] at e)
  have R4 := ((R2.alloc (.cells #[.int .i64 0, .int .i64 0, .string ⟨#[]⟩, .slice none 0 0] 27)).trans HT3.out).step HT4.out (fun i hi e => by
    rcases e with e | e | e
    · omega
    · have := hlv i e; omega
    · simp [Value.ownBlock] at e)
  exact ((((R4.trans HT6.out).trans HT7.out).trans HT8.out).trans HT9.out).trans HT10.out
end Go.Proofs.Ytoihjobdfjajfaa

/- A set of binds with the blocks that it may write. -/
namespace Go.Proofs.Ytoihjobdfjajfaa
set_option linter.unusedVariables false
set_option linter.unusedSimpArgs false
open Go.RowKit Go.Maps
/-- Binds at bb; O: the blocks that are theirs. -/
structure BO (p : Nat → Prop) (bb : Nat) (O : Nat → Prop) (m : Nat) (l : TL) (w : World) : Prop where
  bi : ∃ sb lv tv, BI p bb sb lv tv m l w ∧ ∀ k, ownK bb sb lv tv k → O k
  box : ∀ b ∈ l, O b.2.1
  lt : ∀ k, O k → k < w.heap.size
  sep : ∀ k, p k → ¬ O k
section
variable {p q O O' S : Nat → Prop} {bb m : Nat} {l : TL} {w w' : World} {t : LT}
theorem BO.ok (h : BO p bb O m l w) : Tm.okT m (bt l) := by obtain ⟨sb, lv, tv, B, _⟩ := h.bi; exact B.ok
theorem BO.most (h : BO p bb O m l w) : m ≤ 65536 := by obtain ⟨sb, lv, tv, B, _⟩ := h.bi; exact B.most
theorem BO.plt (h : BO p bb O m l w) : ∀ k, p k → k < w.heap.size := by obtain ⟨sb, lv, tv, B, _⟩ := h.bi; exact fun k hk => (B.sep k hk).1
theorem BO.turned (h : BO p bb O m l w) (T : Turned S w w') (hS : ∀ k, k < w.heap.size → S k → ¬ O k ∧ ¬ p k) : BO p bb O m l w' := by
  obtain ⟨sb, lv, tv, B, hO⟩ := h.bi
  refine ⟨⟨sb, lv, tv, B.turned T (fun k hk e => ⟨fun c => (hS k hk e).1 (hO k c), fun b hb c => (hS k hk e).1 (c ▸ h.box b hb), (hS k hk e).2⟩), hO⟩, h.box, fun k hk => Nat.lt_of_lt_of_le (h.lt k hk) T.size, h.sep⟩
theorem BO.turned0 (h : BO p bb O m l w) (T : Turned (fun _ => False) w w') : BO p bb O m l w' := h.turned T (fun _ _ f => f.elim)
theorem BO.more (h : BO p bb O m l w) (hO : ∀ k, O k → O' k) (hl : ∀ k, O' k → k < w.heap.size) (hs : ∀ k, p k → ¬ O' k) : BO p bb O' m l w := by
  obtain ⟨sb, lv, tv, B, h1⟩ := h.bi
  exact ⟨⟨sb, lv, tv, B, fun k hk => hO k (h1 k hk)⟩, fun b hb => hO _ (h.box b hb), hl, hs⟩
theorem BO.wide (h : BO p bb O m l w) (hp : ∀ k, p k → q k) (hq : ∀ k, q k → k < w.heap.size ∧ ¬ O k) : BO q bb O m l w := by
  obtain ⟨sb, lv, tv, B, h1⟩ := h.bi
  exact ⟨⟨sb, lv, tv, B.wide hp (fun k hk => ⟨(hq k hk).1, fun c => (hq k hk).2 (h1 k c)⟩), h1⟩, h.box, h.lt, fun k hk => (hq k hk).2⟩
/-- What stands behind a call that may write. -/
def After (p : Nat → Prop) (bb : Nat) (O : Nat → Prop) (m : Nat) (l : TL) (w w' : World) : Prop :=
  ∃ O' : Nat → Prop, BO p bb O' m l w' ∧ (∀ k, O' k → k < w.heap.size → O k) ∧ Turned O w w'
theorem After.turned0 {w2 : World} (h : After p bb O m l w w') (T : Turned (fun _ => False) w' w2) : After p bb O m l w w2 := by
  obtain ⟨O', h1, h2, h3⟩ := h
  exact ⟨O', h1.turned0 T, h2, h3.trans (T.mono (fun _ _ f => f.elim))⟩
/-- Two calls one behind the other. -/
theorem After.trans {m' m2 : Nat} {l' l2 : TL} {w2 : World} (h : After p bb O m' l' w w') (h2 : ∀ O', BO p bb O' m' l' w' → After p bb O' m2 l2 w' w2) : After p bb O m2 l2 w w2 := by
  obtain ⟨O', a1, a2, a3⟩ := h
  obtain ⟨O2, b1, b2, b3⟩ := h2 O' a1
  refine ⟨O2, b1, fun k hk hl => a2 k (b2 k hk (Nat.lt_of_lt_of_le hl a3.size)) hl, a3.step b3 (fun i hi e => a2 i e hi)⟩
theorem newO86 {p : Nat → Prop} (w : World) (hp : ∀ k, p k → k < w.heap.size) :
    Calls Try.prog 86 #[] w fun e w' => ∃ bb, e = .returned (.pointer (some ⟨bb, 0, none⟩)) ∧ BO p bb (fun k => w.heap.size ≤ k ∧ k < w'.heap.size) 0 [] w' ∧ w.heap.size ≤ bb ∧ Turned (fun _ => False) w w' := by
  refine (newB86 w hp).mono ?_
  rintro e w' ⟨rfl, B, T⟩
  refine ⟨_, rfl, ⟨⟨_, _, _, B, fun k hk => ⟨?_, B.own_lt k hk⟩⟩, fun b hb => (by cases hb), fun k hk => hk.2, fun k hk c => by have := hp k hk; omega⟩, by omega, T⟩
  rcases hk with e | e | e | e
  · omega
  · omega
  · simp [Value.ownBlock] at e
  · simp [Value.ownBlock] at e
theorem freshO87 (h : BO p bb O m l w) (hm : m < 65536) :
    Calls Try.prog 87 #[.pointer (some ⟨bb, 0, none⟩)] w fun e w' => e = .returned (.tuple #[.agg #[.int .i64 0, .int .i64 (m : Int), .string ByteArray.empty, .slice none 0 0], .bool true]) ∧ After p bb O (m + 1) l w w' := by
  obtain ⟨sb, lv, tv, B, hO⟩ := h.bi
  refine (fresh87 B hm).mono ?_
  rintro e w' ⟨rfl, ⟨lv', B', ho⟩, T⟩
  have hold : ∀ k, ownK bb sb lv' tv k → k < w.heap.size → ownK bb sb lv tv k := fun k hk hl => by
    rcases hk with e | e | e | e
    · exact .inl e
    · exact .inr (.inl e)
    · rcases ho with ho | ho
      · exact .inr (.inr (.inl (ho ▸ e)))
      · have := ho k e; omega
    · exact .inr (.inr (.inr e))
  refine ⟨rfl, fun k => ownK bb sb lv' tv k ∨ (O k ∧ k < w.heap.size), ⟨⟨sb, lv', tv, B', fun k hk => .inl hk⟩, fun b hb => .inr ⟨h.box b hb, h.lt _ (h.box b hb)⟩, fun k hk => hk.elim (B'.own_lt k) (fun e => Nat.lt_of_lt_of_le e.2 T.size), fun k hk c => ?_⟩, fun k hk hl => hk.elim (fun c => hO k (hold k c hl)) (fun e => e.1), T.mono (fun k _ e => hO k (e.elim .inl (fun e => .inr (.inr (.inl e)))))⟩
  rcases c with c | c
  · exact (B'.sep k hk).2 c
  · exact h.sep k hk c.1
theorem setO88 (h : BO p bb O m l w) (ht : t.In p w) (hs : slim t) (n : Int) (h64 : I64 n) :
    Calls Try.prog 88 #[.pointer (some ⟨bb, 0, none⟩), .int .i64 n, t.val] w fun e w' => e = .returned (.int .i64 (Tm.setE m (bt l) n t.bare)) ∧ ∃ l', bt l' = (if Tm.setE m (bt l) n t.bare = 0 then (n, t.bare) :: bt l else bt l) ∧ After p bb O m l' w w' := by
  obtain ⟨sb, lv, tv, B, hO⟩ := h.bi
  refine (set88 B ht hs n h64).mono ?_
  rintro e w' ⟨rfl, ⟨tv', l', B', hbt, ho, hb⟩, T⟩
  have hold : ∀ k, ownK bb sb lv tv' k → k < w.heap.size → ownK bb sb lv tv k := fun k hk hl => by
    rcases hk with e | e | e | e
    · exact .inl e
    · exact .inr (.inl e)
    · exact .inr (.inr (.inl e))
    · rcases ho with ho | ho
      · exact .inr (.inr (.inr (ho ▸ e)))
      · have := ho k e; omega
  refine ⟨rfl, l', hbt, fun k => ownK bb sb lv tv' k ∨ (O k ∧ k < w.heap.size) ∨ (w.heap.size ≤ k ∧ k < w'.heap.size), ⟨⟨sb, lv, tv', B', fun k hk => .inl hk⟩, fun b hbl => ?_, fun k hk => ?_, fun k hk c => ?_⟩, fun k hk hl => ?_, T.mono (fun k _ e => hO k (e.elim (fun e => .inr (.inl e)) (fun e => .inr (.inr e))))⟩
  · rcases hb b hbl with e | e
    · exact .inr (.inl ⟨h.box b e, h.lt _ (h.box b e)⟩)
    · exact .inr (.inr ⟨e, (Array.getElem?_eq_some_iff.1 (B'.terms b hbl).1).1⟩)
  · rcases hk with e | e | e
    · exact B'.own_lt k e
    · exact Nat.lt_of_lt_of_le e.2 T.size
    · exact e.2
  · rcases c with c | c | c
    · exact (B'.sep k hk).2 c
    · exact h.sep k hk c.1
    · have := (B.sep k hk).1; omega
  · rcases hk with e | e | e
    · exact hO k (hold k e hl)
    · exact e.1
    · omega
theorem walkO90 (h : BO p bb O m l w) (ht : t.In p w) (hg : ∀ z ∈ t.bare.flat, goodOneB z = true) :
    Calls Try.prog 90 #[.pointer (some ⟨bb, 0, none⟩), t.val] w fun e w' => ∃ x : LT, e = .returned x.val ∧ x.In p w' ∧ x.bare = Tm.walkT (bt l) t.bare ∧ Turned (fun _ => False) w w' := by
  obtain ⟨sb, lv, tv, B, hO⟩ := h.bi
  exact walk90 B ht hg
theorem wholeO89 (h : BO p bb O m l w) (ht : t.In p w) (hs : slim t) :
    Calls Try.prog 89 #[.pointer (some ⟨bb, 0, none⟩), t.val] w fun e w' => ∃ u : LT, e = .returned (.tuple #[u.val, .int .i64 (wholeE m (bt l) t.bare)]) ∧ u.bare = wholeT m (bt l) t.bare ∧ u.In (fun k => p k ∨ w.heap.size ≤ k) w' ∧ Turned (fun _ => False) w w' := by
  obtain ⟨sb, lv, tv, B, hO⟩ := h.bi
  exact whole89 B ht hs
theorem markO111 (h : BO p bb O m l w) : Calls Try.prog 111 #[.pointer (some ⟨bb, 0, none⟩)] w fun e w' => e = .returned (.int .i64 l.length) ∧ Turned (fun _ => False) w w' := by
  obtain ⟨sb, lv, tv, B, hO⟩ := h.bi
  exact mark111 B
theorem lenO107 (h : BO p bb O m l w) : Calls Try.prog 107 #[.pointer (some ⟨bb, 0, none⟩)] w fun e w' => e = .returned (.int .i64 m) ∧ Turned (fun _ => False) w w' := by
  obtain ⟨sb, lv, tv, B, hO⟩ := h.bi
  exact len107 B
end
end Go.Proofs.Ytoihjobdfjajfaa

/- How a list of acts that came in is opened. -/
namespace Go.Proofs.Ytoihjobdfjajfaa
open Go.Joins Go.Deep Go.ChangeShapes Go.WideShapes Go.ChangeAt Go.RowKit
set_option linter.unusedVariables false
set_option linter.unusedSimpArgs false
theorem cellsOf58 : Try.prog.cellsOf 58 = 6 := by kernel_rfl
theorem list6 {α : Type} {l : List α} (h : l.length = 6) : ∃ a b c d e f, l = [a, b, c, d, e, f] := by
  match l, h with
  | [a, b, c, d, e, f], _ => exact ⟨a, b, c, d, e, f, rfl⟩
theorem list3 {α : Type} {l : List α} (h : l.length = 3) : ∃ a b c, l = [a, b, c] := by
  match l, h with
  | [a, b, c], _ => exact ⟨a, b, c, rfl⟩
section
variable {H : Type} {enc : TypeId × Value → H} {W : World} {base : Nat} {sp : Nat → Bool} {held : Bool}
set_option maxRecDepth 100000 in
theorem act_of {fuel : Nat} {cs : List Value} {x : DataW H × List MemPlace} (h : DataW.trod enc Try.prog W base sp held fuel 58 cs = some x) : ∃ k : Act2, cs = k.cells ∧ I64 k.i := by
  cases fuel with
  | zero => simp [DataW.trod] at h
  | succ fuel =>
  obtain ⟨xs, n, hn, hx, hcs, hlen, hf⟩ := DataW.trod_struct Try.underlying58 h
  have hn : fuel = n := by omega
  subst hn
  rw [cellsOf58] at hcs
  obtain ⟨u0, u1, u2, u3, u4, u5, rfl⟩ := list6 hcs
  obtain ⟨y0, y1, y2, rfl⟩ := list3 hlen
  have f0 : DataW.trod enc Try.prog W base sp held fuel 3 (([u0, u1, u2, u3, u4, u5].drop 0).take (Try.prog.cellsOf 3)) = some y0 := hf 0 _ rfl
  have f1 : DataW.trod enc Try.prog W base sp held fuel 3 (([u0, u1, u2, u3, u4, u5].drop 1).take (Try.prog.cellsOf 3)) = some y1 := hf 1 _ rfl
  have f2 : DataW.trod enc Try.prog W base sp held fuel 35 (([u0, u1, u2, u3, u4, u5].drop 2).take (Try.prog.cellsOf 35)) = some y2 := hf 2 _ rfl
  simp only [cellsOf3, cellsOf35] at f0 f1 f2
  simp at f0 f1 f2
  obtain ⟨k, e0, _, wk⟩ := DataW.trod_int Try.underlying3 f0
  obtain ⟨m, e1, _, wm⟩ := DataW.trod_int Try.underlying3 f1
  obtain ⟨q, e2⟩ := key_of f2
  simp [Key.cells] at e0 e1 e2
  obtain ⟨rfl, rfl, rfl, rfl⟩ := e2
  subst e0 e1
  exact ⟨⟨k, m, q⟩, rfl, I64_of wm⟩
set_option maxRecDepth 100000 in
theorem asT_of {fuel : Nat} {a : Option Addr} {len cap : Nat} {x : DataW H × List MemPlace} (hf : DataW.trod enc Try.prog W base sp held fuel 52 (Value.slice a len cap).cells.toList = some x) : ∃ l : List Act2, l.length = len ∧ ASl W a cap l := by
  cases fuel with
  | zero => simp [DataW.trod] at hf
  | succ fuel =>
  rcases DataW.trod_slice Try.underlying52 hf with ⟨hcs, _⟩ | ⟨ad, len', cap', elems, rest, n, hn, hcs, _, _, hl, hm, hlen, hel, _⟩
  · simp [Value.cells] at hcs
    obtain ⟨rfl, rfl, rfl⟩ := hcs
    exact ⟨[], rfl, ⟨fun _ => ⟨rfl, rfl⟩, fun h => by simp at h, Nat.le_refl _, by omega, fun x hx => by cases hx⟩⟩
  · simp [Value.cells] at hcs
    obtain ⟨rfl, rfl, rfl⟩ := hcs
    rw [cellsOf58] at hel
    have hp : ∀ i, ∃ k : Act2, i < len → I64 k.i ∧ ∀ j, j < 6 → W.cell? (ad.add (i * 6 + j)) = k.cells[j]? := by
      intro i
      by_cases hi : i < len
      · have he := hel i hi
        rw [List.getElem?_eq_getElem (by omega)] at he
        obtain ⟨cs', hc, ht⟩ := Option.bind_eq_some_iff.1 he
        obtain ⟨k, rfl, wk⟩ := act_of ht
        obtain ⟨_, _, hat⟩ := World.cells?_some hc
        refine ⟨k, fun _ => ⟨wk, fun j hj => ?_⟩⟩
        rw [← hat j hj]
        congr 1
        exact (add_add ..).symm
      · exact ⟨⟨0, 0, Key.zero⟩, fun h => absurd h hi⟩
    obtain ⟨f, hff⟩ := Classical.axiomOfChoice hp
    refine ⟨(List.range len).map f, by simp, ⟨(fun e => by cases e), fun hpos => ?_, by simpa using hl, by unfold maxLen at hm; omega, fun x hx => ?_⟩⟩
    · simp at hpos
      obtain ⟨b, o, spot⟩ := ad
      have hc := (hff 0 (by omega)).2 0 (by omega)
      have hspot : spot = none := by
        have : W.cell? ((⟨b, o, spot⟩ : Addr).add (0 * 6 + 0)) = some (.int .i64 (f 0).op) := hc
        simpa [Addr.add] using World.cell?_spot this
      subst hspot
      refine ⟨b, o, rfl, fun i x hx j u hu => ?_⟩
      have hlt := (List.getElem?_eq_some_iff.1 hx).1
      rw [List.length_map, List.length_range] at hlt
      have hx2 : ((List.range len).map f)[i]? = some (f i) := by rw [List.getElem?_map, List.getElem?_range hlt]; rfl
      rw [hx] at hx2
      obtain rfl := Option.some.inj hx2
      have hj : j < 6 := (List.getElem?_eq_some_iff.1 hu).1
      have hc := (hff i hlt).2 j hj
      rw [Addr.add_lit] at hc
      rw [hc, hu]
    · obtain ⟨i, hi, rfl⟩ := List.mem_map.1 hx
      exact (hff i (by simpa using hi)).1
end
end Go.Proofs.Ytoihjobdfjajfaa

/- How a list of chapter 11's acts that came in is opened. -/
namespace Go.Proofs.Ytoihjobdfjajfaa
open Go.Joins Go.Deep Go.ChangeShapes Go.WideShapes Go.ChangeAt Go.RowKit
set_option linter.unusedVariables false
set_option linter.unusedSimpArgs false
theorem cellsOf98 : Try.prog.cellsOf 98 = 6 := by kernel_rfl
/-- One act: what is called, a number, a term. -/
structure ActT where
  op : Int
  i : Int
  t : LT
def ActT.cells (a : ActT) : List Value := [.int .i64 a.op, .int .i64 a.i, .int .i64 a.t.kind, .int .i64 a.t.n, .string a.t.name, .slice a.t.at_.1 a.t.args.length a.t.at_.2]
structure TASl (w : World) (a : Option Addr) (c : Nat) (l : List ActT) : Prop where
  none_ : a = none → l.length = 0 ∧ c = 0
  lies : 0 < l.length → ∃ b o, a = some ⟨b, o, none⟩ ∧ ∀ (i : Nat) x, l[i]? = some x → ∀ (j : Nat) u, x.cells[j]? = some u → w.cell? ⟨b, o + (i * 6 + j), none⟩ = some u
  cap : l.length ≤ c
  max : c ≤ 9223372036854775807
  wf : ∀ x ∈ l, I64 x.i ∧ x.t.In (fun _ => True) w
theorem TASl.turned0 {w w' : World} {a : Option Addr} {c : Nat} {l : List ActT} (h : TASl w a c l) (ht : Turned (fun _ => False) w w') : TASl w' a c l := by
  refine ⟨h.none_, fun hp => ?_, h.cap, h.max, fun x hx => ⟨(h.wf x hx).1, (h.wf x hx).2.turned0 ht⟩⟩
  obtain ⟨b, o, he, hc⟩ := h.lies hp
  exact ⟨b, o, he, fun i x hx j u hu => ht.cell (hc i x hx j u hu) (fun f => f)⟩
/-- What is written lies behind what came in. -/
theorem TASl.turned {w w' : World} {a : Option Addr} {c : Nat} {l : List ActT} {S : Nat → Prop} {b0 : Nat} (h : TASl w a c l) (hb : ∀ b o, a = some ⟨b, o, none⟩ → b < b0) (hin : ∀ x ∈ l, x.t.In (· < b0) w) (ht : Turned S w w') (hS : ∀ k, k < b0 → ¬ S k) : TASl w' a c l := by
  refine ⟨h.none_, fun hp => ?_, h.cap, h.max, fun x hx => ⟨(h.wf x hx).1, LT.In.turned ht (fun k _ hk => hS k hk) (fun _ _ _ => trivial) _ (hin x hx)⟩⟩
  obtain ⟨b, o, he, hc⟩ := h.lies hp
  exact ⟨b, o, he, fun i x hx j u hu => ht.cell (hc i x hx j u hu) (hS b (hb b o he))⟩
theorem TASl.at {w : World} {b o c : Nat} {l : List ActT} (h : TASl w (some ⟨b, o, none⟩) c l) {i : Nat} {x : ActT} (hi : l[i]? = some x) :
    w.cell? ⟨b, o + i * 6, none⟩ = some (.int .i64 x.op) ∧ w.cell? ⟨b, o + i * 6 + 1, none⟩ = some (.int .i64 x.i) ∧ w.cell? ⟨b, o + i * 6 + 2, none⟩ = some (.int .i64 x.t.kind) ∧ w.cell? ⟨b, o + i * 6 + 3, none⟩ = some (.int .i64 x.t.n) ∧ w.cell? ⟨b, o + i * 6 + 4, none⟩ = some (.string x.t.name) ∧ w.cell? ⟨b, o + i * 6 + 5, none⟩ = some (.slice x.t.at_.1 x.t.args.length x.t.at_.2) := by
  obtain ⟨b', o', e, hc⟩ := h.lies (by have := (List.getElem?_eq_some_iff.1 hi).1; omega)
  injection e with e
  injection e with e1 e2
  subst e1 e2
  have hh := hc i x hi
  refine ⟨hh 0 _ rfl, ?_, ?_, ?_, ?_, ?_⟩
  all_goals rw [Nat.add_assoc]
  · exact hh 1 _ rfl
  · exact hh 2 _ rfl
  · exact hh 3 _ rfl
  · exact hh 4 _ rfl
  · exact hh 5 _ rfl
section
variable {H : Type} {enc : TypeId × Value → H} {W : World} {base : Nat} {sp : Nat → Bool} {held : Bool}
set_option maxRecDepth 100000 in
theorem actT_of {fuel : Nat} {cs : List Value} {x : DataW H × List MemPlace} (h : DataW.trod enc Try.prog W base sp held fuel 98 cs = some x) : ∃ k : ActT, cs = k.cells ∧ I64 k.i ∧ k.t.In (fun _ => True) W := by
  cases fuel with
  | zero => simp [DataW.trod] at h
  | succ fuel =>
  obtain ⟨xs, n, hn, hx, hcs, hlen, hf⟩ := DataW.trod_struct Try.underlying98 h
  have hn : fuel = n := by omega
  subst hn
  rw [cellsOf98] at hcs
  obtain ⟨u0, u1, u2, u3, u4, u5, rfl⟩ := list6 hcs
  obtain ⟨y0, y1, y2, rfl⟩ := list3 hlen
  have f0 : DataW.trod enc Try.prog W base sp held fuel 3 (([u0, u1, u2, u3, u4, u5].drop 0).take (Try.prog.cellsOf 3)) = some y0 := hf 0 _ rfl
  have f1 : DataW.trod enc Try.prog W base sp held fuel 2 (([u0, u1, u2, u3, u4, u5].drop 1).take (Try.prog.cellsOf 2)) = some y1 := hf 1 _ rfl
  have f2 : DataW.trod enc Try.prog W base sp held fuel 27 (([u0, u1, u2, u3, u4, u5].drop 2).take (Try.prog.cellsOf 27)) = some y2 := hf 2 _ rfl
  simp only [cellsOf3, cellsOf2, cellsOf27] at f0 f1 f2
  simp at f0 f1 f2
  obtain ⟨k, e0, _, wk⟩ := DataW.trod_int Try.underlying3 f0
  obtain ⟨m, e1, _, wm⟩ := DataW.trod_int Try.underlying2 f1
  obtain ⟨q, e2, wq⟩ := (terms_of fuel).1 _ _ f2
  rw [LT.cells_eq] at e2
  simp at e0 e1 e2
  obtain ⟨rfl, rfl, rfl, rfl⟩ := e2
  subst e0 e1
  exact ⟨⟨k, m, q⟩, rfl, I64_of wm, wq⟩
set_option maxRecDepth 100000 in
theorem tasT_of {fuel : Nat} {a : Option Addr} {len cap : Nat} {x : DataW H × List MemPlace} (hf : DataW.trod enc Try.prog W base sp held fuel 92 (Value.slice a len cap).cells.toList = some x) : ∃ l : List ActT, l.length = len ∧ TASl W a cap l := by
  cases fuel with
  | zero => simp [DataW.trod] at hf
  | succ fuel =>
  rcases DataW.trod_slice Try.underlying92 hf with ⟨hcs, _⟩ | ⟨ad, len', cap', elems, rest, n, hn, hcs, _, _, hl, hm, hlen, hel, _⟩
  · simp [Value.cells] at hcs
    obtain ⟨rfl, rfl, rfl⟩ := hcs
    exact ⟨[], rfl, ⟨fun _ => ⟨rfl, rfl⟩, fun h => by simp at h, Nat.le_refl _, by omega, fun x hx => by cases hx⟩⟩
  · simp [Value.cells] at hcs
    obtain ⟨rfl, rfl, rfl⟩ := hcs
    rw [cellsOf98] at hel
    have hp : ∀ i, ∃ k : ActT, i < len → (I64 k.i ∧ k.t.In (fun _ => True) W) ∧ ∀ j, j < 6 → W.cell? (ad.add (i * 6 + j)) = k.cells[j]? := by
      intro i
      by_cases hi : i < len
      · have he := hel i hi
        rw [List.getElem?_eq_getElem (by omega)] at he
        obtain ⟨cs', hc, ht⟩ := Option.bind_eq_some_iff.1 he
        obtain ⟨k, rfl, wk⟩ := actT_of ht
        obtain ⟨_, _, hat⟩ := World.cells?_some hc
        refine ⟨k, fun _ => ⟨wk, fun j hj => ?_⟩⟩
        rw [← hat j hj]
        congr 1
        exact (add_add ..).symm
      · exact ⟨⟨0, 0, leaf 0 0 ByteArray.empty⟩, fun h => absurd h hi⟩
    obtain ⟨f, hff⟩ := Classical.axiomOfChoice hp
    refine ⟨(List.range len).map f, by simp, ⟨(fun e => by cases e), fun hpos => ?_, by simpa using hl, by unfold maxLen at hm; omega, fun x hx => ?_⟩⟩
    · simp at hpos
      obtain ⟨b, o, spot⟩ := ad
      have hc := (hff 0 (by omega)).2 0 (by omega)
      have hspot : spot = none := by
        have : W.cell? ((⟨b, o, spot⟩ : Addr).add (0 * 6 + 0)) = some (.int .i64 (f 0).op) := hc
        simpa [Addr.add] using World.cell?_spot this
      subst hspot
      refine ⟨b, o, rfl, fun i x hx j u hu => ?_⟩
      have hlt := (List.getElem?_eq_some_iff.1 hx).1
      rw [List.length_map, List.length_range] at hlt
      have hx2 : ((List.range len).map f)[i]? = some (f i) := by rw [List.getElem?_map, List.getElem?_range hlt]; rfl
      rw [hx] at hx2
      obtain rfl := Option.some.inj hx2
      have hj : j < 6 := (List.getElem?_eq_some_iff.1 hu).1
      have hc := (hff i hlt).2 j hj
      rw [Addr.add_lit] at hc
      rw [hc, hu]
    · obtain ⟨i, hi, rfl⟩ := List.mem_map.1 hx
      exact (hff i (by simpa using hi)).1
end
end Go.Proofs.Ytoihjobdfjajfaa

/- BindWhole: the walk. -/
namespace Go.Proofs.Ytoihjobdfjajfaa
set_option linter.unusedVariables false
set_option linter.unusedSimpArgs false
open Go.RowKit Go.Maps
theorem deepVal85 (k : Nat) (t : LT) (W : World) (n : Int) (hn : n = (k : Int)) (hk : k ≤ 1000) {p : Nat → Prop} (h : t.In p W) : Calls Try.prog 85 #[.agg #[.int .i64 t.kind, .int .i64 t.n, .string t.name, .slice t.at_.1 t.args.length t.at_.2], .int .i64 n] W fun e w' => e = .returned (.bool (deepB k t)) ∧ Turned (fun _ => False) W w' := by
  subst hn
  have := deep85 p k t W hk h
  rw [LT.val_eq] at this
  exact this
theorem wholeE_cases (m : Nat) (l : Tm.Trail) (t : Tm Unit) : wholeE m l t = 0 ∨ wholeE m l t = 1 ∨ wholeE m l t = 12 := by
  unfold wholeE
  split
  · split
    · exact .inl rfl
    · exact .inr (.inr rfl)
  · exact .inr (.inl rfl)
theorem wholeE_ok {m : Nat} {l : Tm.Trail} {t : Tm Unit} (h : wholeE m l t = 0) : Tm.ownB m t = true ∧ Tm.wholeB l t = true := by
  unfold wholeE at h
  split at h
  · rename_i h1
    split at h
    · rename_i h2; exact ⟨h1, h2⟩
    · cases h
  · cases h
/-- What is whole is whole. -/
structure WholeQ (m : Nat) (l : Tm.Trail) (u : LT) : Prop where
  good : goodB u.bare = true
  free : ∀ v ∈ u.vars, 0 ≤ v ∧ v < (m : Int) ∧ v ∉ Tm.dom l
  again : wholeE m l u.bare = 0
  same : wholeT m l u.bare = u.bare
theorem wholeQ {m : Nat} {l : Tm.Trail} {t : Tm Unit} {u : LT} (hl : Tm.okT m l) (h : wholeE m l t = 0) (hu : u.bare = wholeT m l t) : WholeQ m l u := by
  obtain ⟨h1, h2⟩ := wholeE_ok h
  have e : u.bare = Tm.img l t := by rw [hu]; unfold wholeT; rw [h]; rfl
  have hw := Tm.whole_good hl h1 h2
  obtain ⟨i1, i2⟩ := Tm.whole_whole hl h1 h2
  have ha : wholeE m l u.bare = 0 := by unfold wholeE; rw [e, if_pos hw, if_pos i2]
  refine ⟨by rw [e]; exact (Tm.ownB_iff.1 hw).1, fun v hv => ?_, ha, ?_⟩
  · rw [← Tm.vars_bare, e] at hv
    obtain ⟨x, hx, hk, rfl⟩ := (Tm.vars_mem v).1 hv
    have hg := Tm.good_ones' (Tm.ownB_iff.1 hw).1 x hx
    rw [goodOneB_0 x hk] at hg
    simp only [Bool.and_eq_true, decide_eq_true_eq] at hg
    exact ⟨hg.1, (Tm.ownB_iff.1 hw).2 _ ⟨x, hx, hk, rfl⟩, Tm.img_vars_free hl h1 hv⟩
  · unfold wholeT; rw [ha, e]; exact i1
theorem good_slimB {t : LT} (h : goodB t.bare = true) : slim t := by
  intro x hx
  have h1 := Tm.good_ones' h x.bare (by rw [Tm.flat_bare]; exact List.mem_map_of_mem hx)
  rw [goodOneB_bare] at h1
  by_cases ha : x.args = []
  · rw [ha]; exact Nat.zero_le _
  · have := (Tm.one_args h1 ha).2.2; omega
theorem wholeVal {p O : Nat → Prop} {bb m : Nat} {l : TL} {w : World} {t : LT} {E : Int} (h : BO p bb O m l w) (ht : t.In p w) (hs : slim t) (hE : wholeE m (bt l) t.bare = E) :
    Calls Try.prog 89 #[.pointer (some ⟨bb, 0, none⟩), .agg #[.int .i64 t.kind, .int .i64 t.n, .string t.name, .slice t.at_.1 t.args.length t.at_.2]] w fun e w' => ∃ u : LT, e = .returned (.tuple #[.agg #[.int .i64 u.kind, .int .i64 u.n, .string u.name, .slice u.at_.1 u.args.length u.at_.2], .int .i64 E]) ∧ u.bare = wholeT m (bt l) t.bare ∧ u.In (fun k => p k ∨ w.heap.size ≤ k) w' ∧ Turned (fun _ => False) w w' := by
  have := wholeO89 h ht hs
  rw [LT.val_eq, hE] at this
  exact this.mono fun e w' ⟨u, h1, h2⟩ => ⟨u, by rw [h1, LT.val_eq], h2⟩
theorem setVal {p O : Nat → Prop} {bb m : Nat} {l : TL} {w : World} {t : LT} (h : BO p bb O m l w) (ht : t.In p w) (hs : slim t) (n : Int) (h64 : I64 n) :
    Calls Try.prog 88 #[.pointer (some ⟨bb, 0, none⟩), .int .i64 n, .agg #[.int .i64 t.kind, .int .i64 t.n, .string t.name, .slice t.at_.1 t.args.length t.at_.2]] w fun e w' => (∃ E : Int, e = .returned (.int .i64 E)) ∧ ∃ l', After p bb O m l' w w' := by
  have := setO88 h ht hs n h64
  rw [LT.val_eq] at this
  exact this.mono fun e w' ⟨h1, l', _, h2⟩ => ⟨⟨_, h1⟩, l', h2⟩
theorem varsVal {p : Nat → Prop} {w : World} {u : LT} (hu : u.In p w) (hg : goodB u.bare = true) :
    Calls Try.prog 34 #[.agg #[.int .i64 u.kind, .int .i64 u.n, .string u.name, .slice u.at_.1 u.args.length u.at_.2]] w fun e w' => ∃ (va : Option Addr) (vc : Nat), e = .returned (.slice va u.vars.length vc) ∧ Row w' 2 1 (.slice va u.vars.length vc) u.vars.length (u.vars.map (Value.int .i64)) ∧ Turned (fun _ => False) w w' := by
  have hg' : goodB u = true := by rw [← goodB_bare]; exact hg
  have := vars34 hu (good_slimB hg)
  rw [LT.val_eq] at this
  refine this.mono ?_
  rintro e w' ⟨v, rfl, hr, _, T⟩
  rw [show varsB u = u.vars from by unfold varsB; rw [if_pos hg']] at hr
  obtain ⟨va, vc, rfl⟩ := hr.shape
  exact ⟨va, vc, rfl, hr, T⟩
/-- A variable that stands for nothing is walked to itself. -/
theorem walkFree {p O : Nat → Prop} {bb m : Nat} {l : TL} {w : World} {v : Int} (h : BO p bb O m l w) (h0 : 0 ≤ v) (h1 : v < (m : Int)) (hd : v ∉ Tm.dom (bt l)) :
    Calls Try.prog 90 #[.pointer (some ⟨bb, 0, none⟩), .agg #[.int .i64 0, .int .i64 v, .string ByteArray.empty, .slice none 0 0]] w fun e w' => ∃ x : LT, e = .returned (.agg #[.int .i64 x.kind, .int .i64 x.n, .string x.name, .slice x.at_.1 x.args.length x.at_.2]) ∧ x.In p w' ∧ x.bare = Tm.V v ∧ Turned (fun _ => False) w w' := by
  have hm := h.most
  have hg : goodB (leaf 0 v ByteArray.empty).bare = true := Tm.goodB_V h0 (by omega)
  refine (walkO90 h (t := leaf 0 v ByteArray.empty) (var_in (by unfold I64; omega)) (Tm.good_ones' hg)).mono ?_
  rintro e w' ⟨x, rfl, hx, hb, T⟩
  refine ⟨x, by rw [LT.val_eq], hx, ?_, T⟩
  rw [hb, Tm.walkT_stop (fun _ => Tm.look_none.2 hd)]
  rfl
theorem sameVar {p : Nat → Prop} {w : World} {x : LT} {v : Int} (hx : x.In p w) (hb : x.bare = Tm.V v) (h0 : 0 ≤ v) (h1 : v ≤ 2147483647) :
    Calls Try.prog 52 #[.agg #[.int .i64 x.kind, .int .i64 x.n, .string x.name, .slice x.at_.1 x.args.length x.at_.2], .agg #[.int .i64 0, .int .i64 v, .string ByteArray.empty, .slice none 0 0]] w fun e w' => e = .returned (.bool true) ∧ Turned (fun _ => False) w w' :=
  sameVal' (p := p) (a := x) (b := leaf 0 v ByteArray.empty) (w := w) (r := true) hx (var_in (by unfold I64; omega)) (slim_eq' (show (leaf 0 v ByteArray.empty).bare = x.bare from hb.symm) (leaf_slim _ _ _)) (leaf_slim _ _ _) (sameB_eq hb (by rw [hb]; exact Tm.goodB_V h0 h1))
/-- The binds, all theirs behind N. -/
def BLoop (N bb m : Nat) (l : TL) (w1 wr : World) : Prop :=
  ∃ O, BO (fun k => k < N) bb O m l wr ∧ (∀ k, O k → N ≤ k) ∧ Turned (fun _ => False) w1 wr
theorem BLoop.step {N bb m m' : Nat} {l l' : TL} {w1 wr w' : World} {O : Nat → Prop} (hN : N = w1.heap.size) (h : BO (fun k => k < N) bb O m l wr) (hO : ∀ k, O k → N ≤ k) (T : Turned (fun _ => False) w1 wr) (ha : After (fun k => k < N) bb O m' l' wr w') : BLoop N bb m' l' w1 w' := by
  obtain ⟨O', a1, a2, a3⟩ := ha
  refine ⟨O', a1, fun k hk => ?_, T.step a3 (fun i hi e => by have := hO i e; omega)⟩
  rcases Nat.lt_or_ge k wr.heap.size with h1 | h1
  · exact hO k (a2 k hk h1)
  · have := T.size; omega
set_option maxRecDepth 100000 in
set_option maxHeartbeats 12800000 in
theorem bindWhole {w : World} {a : Option Addr} {c : Nat} {l : List ActT} {t : LT} (hl : TASl w a c l) (ht : t.In (fun _ => True) w) :
    Calls Try.prog 19 #[.slice a l.length c, t.val] w fun e w' => e = .returned (.bool true) ∧ Turned (fun _ => False) w w' := by
  obtain ⟨wx, hwx⟩ : ∃ z, z = w.alloc (.cells #[.int .i64 t.kind, .int .i64 t.n, .string t.name, .slice t.at_.1 t.args.length t.at_.2] 27) := ⟨_, rfl⟩
  have TX : Turned (fun _ => False) w wx := by rw [hwx]; exact (Turned.refl _ w).alloc _
  have hbx : wx.heap[w.heap.size]? = some (.cells #[.int .i64 t.kind, .int .i64 t.n, .string t.name, .slice t.at_.1 t.args.length t.at_.2] 27 (0, 0)) := by rw [hwx]; exact heap_alloc_new w _
  have hkp := fun W (T : Turned (fun _ => False) wx W) => cells4 ((T.block _ (Array.getElem?_eq_some_iff.1 hbx).1 (fun f => f)).trans hbx)
  have HKP := Lib.hid hkp
  have HTX := Lib.hid TX
  have HWX := Lib.hid hwx
  have HT := Lib.hid (ht.turned0 TX)
  have HL := Lib.hid (hl.turned0 TX)
  have hmax := hl.max
  have hcap := hl.cap
  have HNONE := Lib.hid hl.none_
  rw [LT.val_eq]
  clear hl ht hkp hbx hwx TX
  by_cases h40 : 40 < l.length
  · have d40 : decide (40 < (l.length : Int)) = true := decide_eq_true (by omega)
    go_enter Try.func19, Try.ntmps19
    go_wp2_with (go_at_call 84; refine (awake84 _).mono ?_; rintro e W0 ⟨rfl, T0⟩; rw [← HWX.out] at T0; have S0 := T0; obtain ⟨c0, c1, c2, c3, _⟩ := HKP.out _ S0)
    go_ret
    exact ⟨rfl, HTX.out.trans S0⟩
  have d40 : decide (40 < (l.length : Int)) = false := decide_eq_false (by omega)
  cases hd : deepB 40 t with
  | true =>
    have HD := Lib.hid hd
    clear hd
    go_enter Try.func19, Try.ntmps19
    go_wp2_with (first
      | (go_at_call 84; refine (awake84 _).mono ?_; rintro e W0 ⟨rfl, T0⟩; rw [← HWX.out] at T0; have S0 := T0; obtain ⟨c0, c1, c2, c3, _⟩ := HKP.out _ S0)
      | (go_at_call 85; (with_reducible refine (deepVal85 40 t _ 40 rfl (by omega) (HT.out.turned0 S0)).mono ?_); rintro e W1 ⟨rfl, T1⟩; rw [HD.out]))
    go_ret
    exact ⟨rfl, (HTX.out.trans S0).trans T1⟩
  | false =>
  have HD := Lib.hid hd
  have HSL := Lib.hid (deep_slim 40 t hd)
  clear hd
  go_enter Try.func19, Try.ntmps19
  go_wp2_with (first
    | (go_at_call 84; refine (awake84 _).mono ?_; rintro e W0 ⟨rfl, T0⟩; rw [← HWX.out] at T0; have S0 := T0; obtain ⟨c0, c1, c2, c3, _⟩ := HKP.out _ S0)
    | (go_at_call 85; (with_reducible refine (deepVal85 40 t _ 40 rfl (by omega) (HT.out.turned0 S0)).mono ?_); rintro e w1 ⟨rfl, T1⟩; rw [HD.out]; have S1 := S0.trans T1; have HS1 := Lib.hid S1; clear c0 c1 c2 c3 S0 T0 T1)
    | (go_at_call 86; (with_reducible refine (newO86 (p := fun k => k < w1.heap.size) _ (fun k h => h)).mono ?_); rintro e w2 ⟨bb, rfl, B2, _, T2⟩; have HB2 : Hid (BLoop w1.heap.size bb 0 [] w1 w2) := ⟨_, B2, fun k hk => hk.1, T2⟩; clear B2 T2))
  obtain ⟨N, hN⟩ : ∃ z, z = w1.heap.size := ⟨_, rfl⟩
  rw [← hN] at HB2
  have HN := Lib.hid hN
  have HT1 := Lib.hid (HT.out.turned0 S1)
  have HL1 := Lib.hid (HL.out.turned0 S1)
  have HK1 := Lib.hid (fun W (T : Turned (fun _ => False) w1 W) => HKP.out W (S1.trans T))
  clear hN S1
  go_loopg [6] 6 (fun k i wr => ∃ j : Nat, Hid (j + k = 6) ∧ j ≤ 6 ∧ i = .int .i64 j ∧ Hid (BLoop N bb j [] w1 wr))
  case atStart => exact ⟨0, Nat.zero_add _, Nat.zero_le _, rfl, HB2⟩
  case round =>
    obtain ⟨j, HG, hj, rfl, HB⟩ := hrel
    by_cases hj6 : j < 6
    · have dj : decide ((j : Int) < 6) = true := decide_eq_true (by omega)
      go_wp2_with (go_at_call 87; obtain ⟨O, B, hO, T⟩ := HB.out; (with_reducible refine (freshO87 B (by omega)).mono ?_); rintro e w3 ⟨rfl, A3⟩; have HB3 : Hid (BLoop N bb (j + 1) [] w1 w3) := BLoop.step HN.out B hO T A3; clear B hO T A3)
      go_roundg (gk - 1)
      case measure => have := HG.out; omega
      case rel => exact ⟨j + 1, show _ = _ by have := HG.out; omega, by omega, by go_num, HB3⟩
    · obtain rfl : j = 6 := by omega
      have dj : decide (((6 : Nat) : Int) < 6) = false := rfl
      clear HG hj hj6
      go_wp2_with fail
      obtain ⟨wo, rfl⟩ : ∃ wo : World, wo = wr := ⟨_, rfl⟩
      obtain ⟨gp, rfl⟩ : ∃ gp : Nat, gp = gk := ⟨_, rfl⟩
      go_loopg [7] l.length (fun k i wr => ∃ j : Nat, Hid (j + k = l.length) ∧ j ≤ l.length ∧ i = .int .i64 j ∧ ∃ m, Hid (BLoop N bb 6 m w1 wr))
      case atStart => exact ⟨0, Nat.zero_add _, Nat.zero_le _, rfl, _, HB⟩
      case round =>
        obtain ⟨j, HG, hj, rfl, m, HBm⟩ := hrel
        by_cases hjl : j < l.length
        · obtain ⟨x, hx⟩ : ∃ x, l[j]? = some x := ⟨_, List.getElem?_eq_getElem hjl⟩
          obtain ⟨O, B, hO, T⟩ := HBm.out
          obtain ⟨b, o, rfl, _⟩ := HL1.out.lies (by omega)
          obtain ⟨x0, x1, x2, x3, x4, x5⟩ := (HL1.out.turned0 T).at hx
          obtain ⟨w64, win⟩ := HL1.out.wf x (List.mem_of_getElem? hx)
          have HX := Lib.hid hx
          have HXI := Lib.hid ((win.mono (q := fun k => k < N) (fun k hk _ => by have := HN.out; omega)).turned0 T)
          have HTr := Lib.hid T
          have HW64 := Lib.hid w64
          clear win hx w64 T B hO
          cases hd : deepB 20 x.t with
          | true =>
            have HDX := Lib.hid hd
            clear hd
            go_wp2_with (go_at_call 85; (with_reducible refine (deepVal85 20 x.t _ 20 rfl (by omega) HXI.out).mono ?_); rintro e w4 ⟨rfl, T4⟩; rw [HDX.out])
            go_ret
            exact ⟨rfl, ((HTX.out.trans HS1.out).trans HTr.out).trans T4⟩
          | false =>
            have HDX := Lib.hid hd
            have HSX := Lib.hid (deep_slim 20 x.t hd)
            clear hd
            go_wp2_with (go_at_call 85; (with_reducible refine (deepVal85 20 x.t _ 20 rfl (by omega) HXI.out).mono ?_); rintro e w4 ⟨rfl, T4⟩; rw [HDX.out]; have HT4 := Lib.hid T4; obtain ⟨y0, y1, y2, y3, y4, y5⟩ := (HL1.out.turned0 (HTr.out.trans T4)).at HX.out; clear T4 x0 x1 x2 x3 x4 x5)
            refine region_tail 11 (by kernel_rfl) (by kernel_rfl) ?_
            simp only [List.take_succ_cons, List.take_zero, List.drop_succ_cons, List.drop_zero]
            repeat still_step
            refine wpStill_nil ?_
            go_wp2_with (go_at_call 88; obtain ⟨O, B, hO, T⟩ := HBm.out; (with_reducible refine (setVal (B.turned0 ((HT4.out).trans (Turned.refl _ w4).drew)) (HXI.out.turned0 (HT4.out.trans (Turned.refl _ w4).drew)) HSX.out x.i HW64.out).mono ?_); rintro e w5 ⟨⟨E, rfl⟩, m', A5⟩; have HB5 : Hid (BLoop N bb 6 m' w1 w5) := BLoop.step HN.out (B.turned0 (HT4.out.trans (Turned.refl _ w4).drew)) hO (T.trans (HT4.out.trans (Turned.refl _ w4).drew)) A5; clear B hO T A5)
            go_roundg (gk - 1)
            case measure => have := HG.out; omega
            case rel => exact ⟨j + 1, show _ = _ by have := HG.out; omega, by omega, by go_num, m', HB5⟩
        · obtain rfl : j = l.length := by omega
          obtain ⟨O, B, hO, T⟩ := HBm.out
          have HT2 := Lib.hid T
          have HTi := Lib.hid ((HT1.out.mono (q := fun k => k < N) (fun k hk _ => by have := HN.out; omega)).turned0 T)
          have HB := Lib.hid B
          have hq := fun (u : LT) (h : wholeE 6 (bt m) t.bare = 0) (hu : u.bare = wholeT 6 (bt m) t.bare) => wholeQ B.ok h hu
          have HQ := Lib.hid hq
          obtain ⟨c0, c1, c2, c3, _⟩ := HK1.out _ T
          have hcase := wholeE_cases 6 (bt m) t.bare
          clear T B hq HG hj hjl
          rcases hcase with hE | hE | hE
          · have HE := Lib.hid hE
            clear hE
            go_wp2_with (first
              | (go_at_call 34; (with_reducible refine (varsVal (w := w6.alloc (.cells #[.int .i64 u.kind, .int .i64 u.n, .string u.name, .slice u.at_.1 u.args.length u.at_.2] 27)) HUI.out HWQ.out.good).mono ?_); rintro e w8 ⟨va, vc, rfl, hrow, T8⟩; have HRW := Lib.hid hrow; have HT8 := Lib.hid T8; have hmv := hrow.max; clear hrow T8)
              | (go_at_call 89; (with_reducible refine (wholeVal HB.out HTi.out HSL.out HE.out).mono ?_); rintro e w6 ⟨u, rfl, hub, hui, T6⟩; have hb6 := heap_alloc_new w6 (.cells #[.int .i64 u.kind, .int .i64 u.n, .string u.name, .slice u.at_.1 u.args.length u.at_.2] 27); obtain ⟨u0, u1, u2, u3, _⟩ := cells4 hb6; have HWQ := Lib.hid (HQ.out u HE.out hub); have HUI := Lib.hid (hui.turned0 ((Turned.refl _ w6).alloc (.cells #[.int .i64 u.kind, .int .i64 u.n, .string u.name, .slice u.at_.1 u.args.length u.at_.2] 27))); have HT6 := Lib.hid T6; clear hub hui hb6 T6))
            obtain ⟨vs, hvs⟩ : ∃ z, z = u.vars := ⟨_, rfl⟩
            rw [← hvs] at HRW hmv
            try rw [← hvs]
            have HVS := Lib.hid hvs.symm
            clear hvs u0 u1 u2 u3 c0 c1 c2 c3
            obtain ⟨wo2, rfl⟩ : ∃ wo2 : World, wo2 = wr := ⟨_, rfl⟩
            obtain ⟨gp2, rfl⟩ : ∃ gp2 : Nat, gp2 = gk := ⟨_, rfl⟩
            go_loopg [11] vs.length (fun k i wr => ∃ j : Nat, Hid (j + k = vs.length) ∧ j ≤ vs.length ∧ i = .int .i64 j ∧ Hid (Turned (fun _ => False) w8 wr))
            case atStart => exact ⟨0, Nat.zero_add _, Nat.zero_le _, rfl, Turned.refl _ _⟩
            case round =>
              obtain ⟨j, HG, hj, rfl, HTr⟩ := hrel
              have HT9 := Lib.hid (((HT6.out.alloc (.cells #[.int .i64 u.kind, .int .i64 u.n, .string u.name, .slice u.at_.1 u.args.length u.at_.2] 27)).trans HT8.out).trans HTr.out)
              by_cases hjl : j < vs.length
              · obtain ⟨v, hv⟩ : ∃ v, vs[j]? = some v := ⟨_, List.getElem?_eq_getElem hjl⟩
                obtain ⟨gv, cap, he⟩ := HRW.out.shape_pos (by omega)
                injection he with q1 _ q3
                subst q1 q3
                obtain ⟨v0, v1, v2⟩ := HWQ.out.free v (by rw [HVS.out]; exact List.mem_of_getElem? hv)
                have HV := Lib.hid (And.intro v0 (And.intro v1 v2))
                have hvi : I64 v := by unfold I64; omega
                have HCV := Lib.hid (fun W (T : Turned (fun _ => False) wr W) => (HRW.out.turned0 (HTr.out.trans T)).cells rfl j (.int .i64 v) (by rw [List.getElem?_map, hv]; rfl))
                clear hv v0 v1 v2
                go_wp2_with fail
                refine wp_region_ssa' (G := (fun dd vv W => (match dd with | 76 => vv = .pointer (some ⟨bb, 0, none⟩) | 77 => vv = .slice (some ⟨gv, 0, none⟩) vs.length vc | 78 => vv = .int .i64 j | 79 => vv = .pointer (some ⟨gv, j, none⟩) | 80 => vv = .int .i64 v | 81 => vv = .agg #[.int .i64 0, .int .i64 v, .string ByteArray.empty, .slice none 0 0] | 83 => vv = .slice (some ⟨gv, 0, none⟩) vs.length vc | 84 => vv = .int .i64 j | 85 => vv = .pointer (some ⟨gv, j, none⟩) | 86 => vv = .int .i64 v | 87 => vv = .agg #[.int .i64 0, .int .i64 v, .string ByteArray.empty, .slice none 0 0] | 88 => vv = .bool true | 89 => vv = .bool false | 82 => ∃ x : LT, vv = .agg #[.int .i64 x.kind, .int .i64 x.n, .string x.name, .slice x.at_.1 x.args.length x.at_.2] ∧ x.In (fun k => k < N) W ∧ x.bare = Tm.V v | _ => True : Prop))) [76, 77, 78, 79, 80, 81, 82, 83, 84, 85, 86, 87, 88, 89] (by kernel_rfl) rfl (by kernel_rfl) ?hG ?hs ?hQ
                case hG =>
                  intro d vv W W2 T h
                  split at h <;> first
                    | exact h
                    | (obtain ⟨x, x1, x2, x3⟩ := h; exact ⟨x, x1, x2.turned0 T, x3⟩)
                    | (split <;> simp_all)
                case hs =>
                  refine ⟨?s0, ?s1, ?s2, ?s3, ?s4, ?s5, ?s6, ?s7, ?s8, ?s9, ?s10, ?s11, ?s12, ?s13, trivial⟩
                  case s0 =>
                    refine stepOk_free [] [5] (by kernel_rfl) rfl ?_
                    intro ac W hT hI hO
                    have h5 : ac.tmps.getD 5 undef = .pointer (some ⟨bb, 0, none⟩) := hO 5 (by simp)
                    show Brings Try.prog (fun vv w' => Turned (fun _ => False) W w' ∧ vv = .pointer (some ⟨bb, 0, none⟩)) _
                    simp only [execOp, Act.eval, h5]
                    go_simp
                    try exact ⟨Turned.refl _ _, rfl⟩
                  case s1 =>
                    refine stepOk_free [] [10] (by kernel_rfl) rfl ?_
                    intro ac W hT hI hO
                    have h10 : ac.tmps.getD 10 undef = .slice (some ⟨gv, 0, none⟩) vs.length vc := hO 10 (by simp)
                    show Brings Try.prog (fun vv w' => Turned (fun _ => False) W w' ∧ vv = .slice (some ⟨gv, 0, none⟩) vs.length vc) _
                    simp only [execOp, Act.eval, h10]
                    go_simp
                    try exact ⟨Turned.refl _ _, rfl⟩
                  case s2 =>
                    refine stepOk_free [] [11] (by kernel_rfl) rfl ?_
                    intro ac W hT hI hO
                    have h11 : ac.tmps.getD 11 undef = .int .i64 j := hO 11 (by simp)
                    show Brings Try.prog (fun vv w' => Turned (fun _ => False) W w' ∧ vv = .int .i64 j) _
                    simp only [execOp, Act.eval, h11]
                    go_simp
                    try exact ⟨Turned.refl _ _, rfl⟩
                  case s3 =>
                    refine stepOk_free [77, 78] [] (by kernel_rfl) rfl ?_
                    intro ac W hT hI hO
                    have h77 : ac.tmps.getD 77 undef = .slice (some ⟨gv, 0, none⟩) vs.length vc := hI 77 (by simp)
                    have h78 : ac.tmps.getD 78 undef = .int .i64 j := hI 78 (by simp)
                    show Brings Try.prog (fun vv w' => Turned (fun _ => False) W w' ∧ vv = .pointer (some ⟨gv, j, none⟩)) _
                    simp only [execOp, Act.eval, h77, h78]
                    go_simp
                    try exact ⟨Turned.refl _ _, rfl⟩
                  case s4 =>
                    refine stepOk_free [79] [] (by kernel_rfl) rfl ?_
                    intro ac W hT hI hO
                    have h79 : ac.tmps.getD 79 undef = .pointer (some ⟨gv, j, none⟩) := hI 79 (by simp)
                    show Brings Try.prog (fun vv w' => Turned (fun _ => False) W w' ∧ vv = .int .i64 v) _
                    have cv := HCV.out W hT
                    simp only [execOp, Act.eval, h79]
                    go_simp
                    try exact ⟨Turned.refl _ _, rfl⟩
                  case s5 =>
                    refine stepOk_free [80] [] (by kernel_rfl) rfl ?_
                    intro ac W hT hI hO
                    have h80 : ac.tmps.getD 80 undef = .int .i64 v := hI 80 (by simp)
                    show Brings Try.prog (fun vv w' => Turned (fun _ => False) W w' ∧ vv = .agg #[.int .i64 0, .int .i64 v, .string ByteArray.empty, .slice none 0 0]) _
                    simp only [execOp, Act.eval, h80]
                    go_simp
                    show Calls Try.prog 62 _ W _
                    (with_reducible refine (varE v hvi W).mono ?_)
                    rintro e w' ⟨rfl, T'⟩
                    exact ⟨_, rfl, T', rfl⟩
                  case s6 =>
                    refine stepOk_free [76, 81] [] (by kernel_rfl) rfl ?_
                    intro ac W hT hI hO
                    have h76 : ac.tmps.getD 76 undef = .pointer (some ⟨bb, 0, none⟩) := hI 76 (by simp)
                    have h81 : ac.tmps.getD 81 undef = .agg #[.int .i64 0, .int .i64 v, .string ByteArray.empty, .slice none 0 0] := hI 81 (by simp)
                    show Brings Try.prog (fun vv w' => Turned (fun _ => False) W w' ∧ ∃ x : LT, vv = .agg #[.int .i64 x.kind, .int .i64 x.n, .string x.name, .slice x.at_.1 x.args.length x.at_.2] ∧ x.In (fun k => k < N) w' ∧ x.bare = Tm.V v) _
                    simp only [execOp, Act.eval, h76, h81]
                    go_simp
                    show Calls Try.prog 90 _ W _
                    (with_reducible refine (walkFree (HB.out.turned0 (HT9.out.trans hT)) HV.out.1 HV.out.2.1 HV.out.2.2).mono ?_)
                    rintro e w' ⟨x, rfl, g1, g2, T'⟩
                    exact ⟨_, rfl, T', x, rfl, g1, g2⟩
                  case s7 =>
                    refine stepOk_free [] [10] (by kernel_rfl) rfl ?_
                    intro ac W hT hI hO
                    have h10 : ac.tmps.getD 10 undef = .slice (some ⟨gv, 0, none⟩) vs.length vc := hO 10 (by simp)
                    show Brings Try.prog (fun vv w' => Turned (fun _ => False) W w' ∧ vv = .slice (some ⟨gv, 0, none⟩) vs.length vc) _
                    simp only [execOp, Act.eval, h10]
                    go_simp
                    try exact ⟨Turned.refl _ _, rfl⟩
                  case s8 =>
                    refine stepOk_free [] [11] (by kernel_rfl) rfl ?_
                    intro ac W hT hI hO
                    have h11 : ac.tmps.getD 11 undef = .int .i64 j := hO 11 (by simp)
                    show Brings Try.prog (fun vv w' => Turned (fun _ => False) W w' ∧ vv = .int .i64 j) _
                    simp only [execOp, Act.eval, h11]
                    go_simp
                    try exact ⟨Turned.refl _ _, rfl⟩
                  case s9 =>
                    refine stepOk_free [83, 84] [] (by kernel_rfl) rfl ?_
                    intro ac W hT hI hO
                    have h83 : ac.tmps.getD 83 undef = .slice (some ⟨gv, 0, none⟩) vs.length vc := hI 83 (by simp)
                    have h84 : ac.tmps.getD 84 undef = .int .i64 j := hI 84 (by simp)
                    show Brings Try.prog (fun vv w' => Turned (fun _ => False) W w' ∧ vv = .pointer (some ⟨gv, j, none⟩)) _
                    simp only [execOp, Act.eval, h83, h84]
                    go_simp
                    try exact ⟨Turned.refl _ _, rfl⟩
                  case s10 =>
                    refine stepOk_free [85] [] (by kernel_rfl) rfl ?_
                    intro ac W hT hI hO
                    have h85 : ac.tmps.getD 85 undef = .pointer (some ⟨gv, j, none⟩) := hI 85 (by simp)
                    show Brings Try.prog (fun vv w' => Turned (fun _ => False) W w' ∧ vv = .int .i64 v) _
                    have cv := HCV.out W hT
                    simp only [execOp, Act.eval, h85]
                    go_simp
                    try exact ⟨Turned.refl _ _, rfl⟩
                  case s11 =>
                    refine stepOk_free [86] [] (by kernel_rfl) rfl ?_
                    intro ac W hT hI hO
                    have h86 : ac.tmps.getD 86 undef = .int .i64 v := hI 86 (by simp)
                    show Brings Try.prog (fun vv w' => Turned (fun _ => False) W w' ∧ vv = .agg #[.int .i64 0, .int .i64 v, .string ByteArray.empty, .slice none 0 0]) _
                    simp only [execOp, Act.eval, h86]
                    go_simp
                    show Calls Try.prog 62 _ W _
                    (with_reducible refine (varE v hvi W).mono ?_)
                    rintro e w' ⟨rfl, T'⟩
                    exact ⟨_, rfl, T', rfl⟩
                  case s12 =>
                    refine stepOk_free [82, 87] [] (by kernel_rfl) rfl ?_
                    intro ac W hT hI hO
                    obtain ⟨x, h82, x2, x3⟩ : ∃ x : LT, ac.tmps.getD 82 undef = .agg #[.int .i64 x.kind, .int .i64 x.n, .string x.name, .slice x.at_.1 x.args.length x.at_.2] ∧ x.In (fun k => k < N) W ∧ x.bare = Tm.V v := hI 82 (by simp)
                    have h87 : ac.tmps.getD 87 undef = .agg #[.int .i64 0, .int .i64 v, .string ByteArray.empty, .slice none 0 0] := hI 87 (by simp)
                    show Brings Try.prog (fun vv w' => Turned (fun _ => False) W w' ∧ vv = .bool true) _
                    simp only [execOp, Act.eval, h82, h87]
                    go_simp
                    show Calls Try.prog 52 _ W _
                    (with_reducible refine (sameVar x2 x3 HV.out.1 (by have := HV.out.2.1; omega)).mono ?_)
                    rintro e w' ⟨rfl, T'⟩
                    exact ⟨_, rfl, T', rfl⟩
                  case s13 =>
                    refine stepOk_free [88] [] (by kernel_rfl) rfl ?_
                    intro ac W hT hI hO
                    have h88 : ac.tmps.getD 88 undef = .bool true := hI 88 (by simp)
                    show Brings Try.prog (fun vv w' => Turned (fun _ => False) W w' ∧ vv = .bool false) _
                    simp only [execOp, Act.eval, h88]
                    go_simp
                    try exact ⟨Turned.refl _ _, rfl⟩
                case hQ =>
                  intro vs3 w9 T9 hV
                  have q89 : vs3 89 = .bool false := hV 89 (by simp)
                  simp only [List.foldl_cons, List.foldl_nil, List.setIfInBounds_toArray, List.set_cons_zero, List.set_cons_succ, q89]
                  clear hV q89
                  have HT9' := Lib.hid T9
                  clear T9
                  go_wp2_with fail
                  go_roundg (gk - 1)
                  case measure => have := HG.out; omega
                  case rel => exact ⟨j + 1, show _ = _ by have := HG.out; omega, by omega, by go_num, HTr.out.trans HT9'.out⟩
              · obtain rfl : j = vs.length := by omega
                have hb9 := ((HT8.out.trans HTr.out).block _ (by simp) (fun f => f)).trans (heap_alloc_new w6 (.cells #[.int .i64 u.kind, .int .i64 u.n, .string u.name, .slice u.at_.1 u.args.length u.at_.2] 27))
                obtain ⟨u0, u1, u2, u3, _⟩ := cells4 hb9
                have HC9 := Lib.hid (fun W (T : Turned (fun _ => False) wr W) => cells4 ((T.block _ (Array.getElem?_eq_some_iff.1 hb9).1 (fun f => f)).trans hb9))
                have HW9 : Hid (BO (fun k => k < wr.heap.size ∧ ¬ O k) bb O 6 m wr) := (HB.out.turned0 HT9.out).wide (fun k hk => ⟨by have := HN.out; have := HT2.out.size; have := HT9.out.size; omega, fun c => by have := hO k c; omega⟩) (fun k hk => hk)
                have HU9 : Hid (u.In (fun k => k < wr.heap.size ∧ ¬ O k) wr) := ((HUI.out.turned0 (HT8.out.trans HTr.out))).mono (fun k hk e => ⟨hk, fun c => by
                  rcases e with e | e
                  · have := hO k c; omega
                  · have := HB.out.lt k c; omega⟩)
                clear hb9
                go_wp2_with (first
                  | (go_at_call 89; (with_reducible refine (wholeVal HW9.out HU9.out (good_slimB HWQ.out.good) HWQ.out.again).mono ?_); rintro e w10 ⟨y, rfl, hyb, hyi, T10⟩; have hb10 := heap_alloc_new w10 (.cells #[.int .i64 y.kind, .int .i64 y.n, .string y.name, .slice y.at_.1 y.args.length y.at_.2] 27); obtain ⟨y0, y1, y2, y3, _⟩ := cells4 hb10; obtain ⟨u0, u1, u2, u3, _⟩ := HC9.out _ (T10.alloc (.cells #[.int .i64 y.kind, .int .i64 y.n, .string y.name, .slice y.at_.1 y.args.length y.at_.2] 27)); have HYB := Lib.hid (hyb.trans HWQ.out.same); have T10' := T10.alloc (.cells #[.int .i64 y.kind, .int .i64 y.n, .string y.name, .slice y.at_.1 y.args.length y.at_.2] 27); have HYI := Lib.hid ((hyi.mono (q := fun _ => True) (fun _ _ _ => trivial)).turned0 ((Turned.refl _ w10).alloc (.cells #[.int .i64 y.kind, .int .i64 y.n, .string y.name, .slice y.at_.1 y.args.length y.at_.2] 27))); have HT10 := Lib.hid T10'; clear hb10 hyb hyi T10 T10')
                  | (go_at_call 52; (with_reducible refine (sameVal' (p := fun _ => True) (r := true) ((HU9.out.mono (fun _ _ _ => trivial)).turned0 HT10.out) HYI.out (good_slimB HWQ.out.good) (good_slimB (by rw [HYB.out]; exact HWQ.out.good)) (sameB_eq HYB.out.symm HWQ.out.good)).mono ?_); rintro e w11 ⟨rfl, T11⟩; obtain ⟨u0, u1, u2, u3, _⟩ := HC9.out _ (HT10.out.trans T11); have HT11 := Lib.hid T11; clear T11)
                  | (go_at_call 38; (with_reducible refine (goodVal' (p := fun _ => True) (b := true) (((HU9.out.mono (fun _ _ _ => trivial)).turned0 HT10.out).turned0 HT11.out) (good_slimB HWQ.out.good) (by rw [← goodB_bare]; exact HWQ.out.good)).mono ?_); rintro e w12 ⟨rfl, T12⟩; have HT12 := Lib.hid T12; clear T12))
                go_ret
                exact ⟨rfl, ((((((HTX.out.trans HS1.out).trans HT2.out).trans HT9.out).trans HT10.out).trans HT11.out).trans HT12.out)⟩
          · have HE := Lib.hid hE
            clear hE
            go_wp2_with (go_at_call 89; (with_reducible refine (wholeVal HB.out HTi.out HSL.out HE.out).mono ?_); rintro e w6 ⟨u, rfl, hub, hui, T6⟩; have hb6 := heap_alloc_new w6 (.cells #[.int .i64 u.kind, .int .i64 u.n, .string u.name, .slice u.at_.1 u.args.length u.at_.2] 27); obtain ⟨u0, u1, u2, u3, _⟩ := cells4 hb6; clear hub hui hb6)
            go_ret
            exact ⟨rfl, (((HTX.out.trans HS1.out).trans HT2.out).trans T6).alloc _⟩
          · have HE := Lib.hid hE
            clear hE
            go_wp2_with (go_at_call 89; (with_reducible refine (wholeVal HB.out HTi.out HSL.out HE.out).mono ?_); rintro e w6 ⟨u, rfl, hub, hui, T6⟩; have hb6 := heap_alloc_new w6 (.cells #[.int .i64 u.kind, .int .i64 u.n, .string u.name, .slice u.at_.1 u.args.length u.at_.2] 27); obtain ⟨u0, u1, u2, u3, _⟩ := cells4 hb6; clear hub hui hb6)
            go_ret
            exact ⟨rfl, (((HTX.out.trans HS1.out).trans HT2.out).trans T6).alloc _⟩
end Go.Proofs.Ytoihjobdfjajfaa
