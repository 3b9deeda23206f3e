/- Merged texts: Idx2, Aw16, IdxAll, Opens, Opens2, IP1, BD6, BD10, Deeps, AL7, BE1, BE2, BT1, BT2, BT3. -/
import Derived.Test.YtoihjobdfjajfaaAl4
import Derived.Deep.OwnRows
import Derived.Laws.OwnMore
import Derived.ProofKit
import Derived.Deep.Strs
import Derived.Lib.SmallJoins
import Derived.Lib.SliceRun
import Derived.LoopTactic
import Derived.BigRegion
/- Index: Drop, Pick on what lies in memory. -/
namespace Go.Proofs.Ytoihjobdfjajfaa
set_option linter.unusedVariables false
set_option linter.unusedSimpArgs false
open Go.RowKit Go.Maps
attribute [local go_sem ↓] Go.wp_at_zero Go.wp_at_succ

/-- Whether a place may be let go. -/
def dropB (n : Nat) (gone : List Int) (i : Int) : Bool := decide (0 ≤ i) && (decide (i < n) && !decide (i ∈ gone))
set_option maxRecDepth 100000 in
set_option maxHeartbeats 800000 in
theorem drop55 {xb mb : Nat} {v : Value} {ks : List Key} {gone : List Int} {w : World} (h : IdxIn xb mb v ks gone w) (i : Int) (hi : I64 i) (hn : gone.length ≤ 100000) :
    Calls Try.prog 55 #[.pointer (some ⟨xb, 0, none⟩), .int .i64 i] w fun e w' => e = .returned (.bool (dropB ks.length gone i)) ∧ IdxIn xb mb v ks (if dropB ks.length gone i then gone ++ [i] else gone) w' ∧ Turned (MineX xb mb v) w w' := by
  obtain ⟨a, cap, rfl⟩ := h.row.shape
  obtain ⟨c0, c1, f0⟩ := cells2 h.blk
  have hm := (Row.max h.row)
  have hm1 := hm.1
  have hm2 := hm.2
  have hkey := key3 hi
  have hlk : (Instr.lookup 145 (.map (some mb)) (.int .i64 i) false).run Try.prog w = .ok (.bool (decide (i ∈ gone))) w := by
    rw [h.map.look law3 Try.underlying145 (zero4 _) hkey, inSet_get]
  have H := Lib.hid h
  clear h hm
  by_cases h0 : i < 0
  · have HR : Hid (dropB ks.length gone i = false) := by show _ = _; unfold dropB; simp; omega
    have hd : decide (i < 0) = true := by simpa using h0
    clear h0
    rw [HR.out, if_neg (by decide)]
    go_enter Try.func55, Try.ntmps55
    go_wp2_with fail
    go_ret
    exact ⟨rfl, H.out, Turned.refl _ _⟩
  · have hd : decide (i < 0) = false := by simpa using h0
    by_cases h1 : (ks.length : Int) ≤ i
    · have HR : Hid (dropB ks.length gone i = false) := by show _ = _; unfold dropB; simp; omega
      have hd1 : decide ((ks.length : Int) ≤ i) = true := by simpa using h1
      clear h0 h1
      rw [HR.out, if_neg (by decide)]
      go_enter Try.func55, Try.ntmps55
      go_wp2_with fail
      go_ret
      exact ⟨rfl, H.out, Turned.refl _ _⟩
    · have hd1 : decide ((ks.length : Int) ≤ i) = false := by simpa using h1
      by_cases h2 : i ∈ gone
      · have HR : Hid (dropB ks.length gone i = false) := by show _ = _; unfold dropB; simp [h2]
        have hd2 : decide (i ∈ gone) = true := by simpa using h2
        rw [hd2] at hlk
        clear h0 h1 h2 hd2
        rw [HR.out, if_neg (by decide)]
        go_enter Try.func55, Try.ntmps55
        go_wp2_with fail
        go_ret
        exact ⟨rfl, H.out, Turned.refl _ _⟩
      · have HR : Hid (dropB ks.length gone i = true) := by show _ = _; unfold dropB; simp [h2]; omega
        have hd2 : decide (i ∈ gone) = false := by simpa using h2
        rw [hd2] at hlk
        have HM := Lib.hid h2
        clear h0 h1 h2 hd2
        rw [HR.out, if_pos rfl]
        go_enter Try.func55, Try.ntmps55
        go_wp2_with (first
          | (at_mapUpdate; refine wpList_put rfl _ _ _ 145 rfl law3 Try.underlying145 rfl H.out.map (by unfold maxLen; omega) rfl rfl hkey trivial ?_; intro w1 hmap1 T1; have HM1 := Lib.hid hmap1; clear hmap1))
        go_ret
        have hx := H.out
        refine ⟨rfl, ⟨?_, ?_, ?_, hx.apart⟩, T1.mono (fun j _ e => .inr (.inl e))⟩
        · exact (T1.block xb (hx.lt xb (.inl rfl)) (fun e => hx.ne.1 e.symm)).trans hx.blk
        · exact hx.row.turned T1 (fun j e1 e2 => hx.ne.2 (by rw [e1, e2]))
        · have hm : IMap Try.prog 3 w1 mb (if (inSet gone i).isSome then gone.length else gone.length + 1) (upd (inSet gone) i (.bool true)) := HM1.out
          have hf : inSet gone i = none := by unfold inSet; rw [if_neg HM.out]
          rw [hf, inSet_snoc] at hm
          simpa using hm

/-- What of the places that may fit is there. -/
def thereB (gone : List Int) (l : List Int) : List Int := l.filter fun i => !decide (i ∈ gone)
def PickXR (w0 : World) (gone ps : List Int) (g : Nat) (v i : Value) (wr : World) : Prop :=
  ∃ j : Nat, Hid (j + g = ps.length) ∧ j ≤ ps.length ∧ i = .int .i64 j ∧ Row wr 3 1 v (thereB gone (ps.take j)).length ((thereB gone (ps.take j)).map (Value.int .i64)) ∧ (∀ b, v.ownBlock = some b → w0.heap.size ≤ b) ∧ Turned (fun _ => False) w0 wr
theorem pickB_mem {k : Key} {l : List Key} {i : Nat} {p : Int} (h : p ∈ pickB k l i) : (i : Int) ≤ p ∧ p < ((i + l.length : Nat) : Int) := by
  induction l generalizing i with
  | nil => simp [pickB] at h
  | cons x l ih =>
    simp only [pickB] at h
    have hr : p ∈ pickB k l (i + 1) → (i : Int) ≤ p ∧ p < ((i + (x :: l).length : Nat) : Int) := fun h' => by
      have := ih h'
      simp only [List.length_cons]
      omega
    split at h
    · rcases List.mem_cons.1 h with rfl | h
      · simp only [List.length_cons]; omega
      · exact hr h
    · exact hr h
theorem Row.ksl {w : World} {a : Option Addr} {c : Nat} {ks : List Key} (h : Row w 35 4 (.slice a ks.length c) ks.length (ks.flatMap Key.cells)) : KSl w a c ks := by
  have hm := h.max
  rcases h.2 with ⟨e, e0⟩ | ⟨g, cap, cur, e, hg, _⟩
  · injection e with e1 _ e2
    exact ⟨fun _ => ⟨e0, e2⟩, fun hp => by omega, hm.1, hm.2⟩
  · injection e with e1 _ e2
    subst e1
    refine ⟨(fun e => by cases e), fun hp => ⟨g, 0, rfl, fun j u hu => ?_⟩, hm.1, hm.2⟩
    rw [Nat.zero_add]
    exact h.cells rfl j u hu

set_option maxRecDepth 100000 in
set_option maxHeartbeats 3200000 in
theorem pickX59 {xb mb : Nat} {v : Value} {ks : List Key} {gone : List Int} {w : World} (h : IdxIn xb mb v ks gone w) (k : Key) (hn : ks.length ≤ 60000) :
    Calls Try.prog 59 #[.pointer (some ⟨xb, 0, none⟩), k.val] w fun e w' => ∃ r, e = .returned r ∧ Row w' 3 1 r (thereB gone (pickB k ks 0)).length ((thereB gone (pickB k ks 0)).map (Value.int .i64)) ∧ (∀ b, r.ownBlock = some b → w.heap.size ≤ b) ∧ Turned (fun _ => False) w w' := by
  obtain ⟨a, cap, rfl⟩ := h.row.shape
  have hlx := h.lt xb (.inl rfl)
  obtain ⟨ps, hps⟩ : ∃ ps, ps = pickB k ks 0 := ⟨_, rfl⟩
  have hpl := pickB_le k ks 0
  have hpm : ∀ (j : Nat) p, ps[j]? = some p → I64 p := fun j p hj => by
    have h1 := pickB_mem (hps ▸ (List.mem_of_getElem? hj))
    have : ks.length ≤ 60000 := hn
    unfold I64
    omega
  have HPM := Lib.hid hpm
  have HPS := Lib.hid hps
  rw [← hps] at hpl ⊢
  clear hpm
  have T1 := (Turned.refl (fun _ => False) w).alloc (.cells #[.int .i64 k.kind, .int .i64 k.n, .string k.name, .int .i64 k.arity] 35)
  have hbx := fun W (h : Turned (fun _ => False) (w.alloc (.cells #[.int .i64 k.kind, .int .i64 k.n, .string k.name, .int .i64 k.arity] 35)) W) => (box4 h)
  have H := Lib.hid h
  have HT := Lib.hid T1
  have HB := Lib.hid hbx
  clear h T1 hbx
  unfold Key.val
  go_enter Try.func59, Try.ntmps59
  go_wp2_with fail
  revert HT HB
  generalize w.alloc (.cells #[.int .i64 k.kind, .int .i64 k.n, .string k.name, .int .i64 k.arity] 35) = w1
  intro HT HB
  have hkeep : ∀ W, Turned (fun _ => False) w1 W → Turned (fun _ => False) w1 W ∧ W.cell? ⟨xb, 0, none⟩ = some (.slice a ks.length cap) ∧ W.cell? ⟨w.heap.size, 0, none⟩ = some (.int .i64 k.kind) ∧ W.cell? ⟨w.heap.size, 1, none⟩ = some (.int .i64 k.n) ∧ W.cell? ⟨w.heap.size, 2, none⟩ = some (.string k.name) ∧ W.cell? ⟨w.heap.size, 3, none⟩ = some (.int .i64 k.arity) := fun W hW => by
    obtain ⟨q0, _, _⟩ := cells2 (H.out.turned0 (HT.out.trans hW)).blk
    obtain ⟨b0, b1, b2, b3, _⟩ := cells4 (HB.out W hW).1
    exact ⟨hW, q0, b0, b1, b2, b3⟩
  have HKP := Lib.hid hkeep
  have hpick := fun W (hW : Turned (fun _ => False) w1 W) => pick60 k (Row.ksl (H.out.turned0 (HT.out.trans hW)).row) (by omega)
  unfold Key.val at hpick
  rw [← hps] at hpick
  have HPK := Lib.hid hpick
  clear hkeep hpick hps
  go_region_held3 (fun W => Turned (fun _ => False) w1 W ∧ W.cell? ⟨xb, 0, none⟩ = some (.slice a ks.length cap) ∧ W.cell? ⟨w.heap.size, 0, none⟩ = some (.int .i64 k.kind) ∧ W.cell? ⟨w.heap.size, 1, none⟩ = some (.int .i64 k.n) ∧ W.cell? ⟨w.heap.size, 2, none⟩ = some (.string k.name) ∧ W.cell? ⟨w.heap.size, 3, none⟩ = some (.int .i64 k.arity))
    (first
      | exact HKP.out _ (Turned.refl _ _).drew
      | exact HKP.out _ ((Turned.refl _ _).drew.trans T2))
    ((go_at_call 60; (with_reducible refine (HPK.out _ (Turned.refl _ _).drew).mono ?_); rintro e w2 ⟨r2, rfl, hr2, hn2, T2⟩; obtain ⟨a2, c2, rfl⟩ := hr2.shape))
  go_ways

  have HR2 := Lib.hid hr2
  have Tww := Lib.hid (HT.out.trans ((Turned.refl _ _).drew.trans T2))
  have HX2 := Lib.hid (H.out.turned0 Tww.out)
  have hcap2 := hr2.max
  clear hr2
  clear HB HKP HPK HT T2
  have hs2 : w.heap.size ≤ w2.heap.size := Tww.out.size
  go_wp2_with fail
  go_loopg [5, 15] ps.length (fun g v i wr => PickXR w2 gone ps g v i wr)
  case atStart => exact ⟨0, Nat.zero_add _, Nat.zero_le _, rfl, Row.nil _ _ _, fun b hb => by simp [Value.ownBlock] at hb, Turned.refl _ _⟩
  case round =>
    obtain ⟨j, HG, hj, rfl, hrow, hown, Tr⟩ := hrel
    obtain ⟨wo, rfl⟩ : ∃ wo : World, wo = wr := ⟨_, rfl⟩
    obtain ⟨v3, cv, rfl⟩ := hrow.shape
    have hpl2 : (thereB gone (ps.take j)).length ≤ 65536 := by
      have := List.length_filter_le (fun i => !decide (i ∈ gone)) (ps.take j)
      unfold thereB
      rw [List.length_take] at this
      omega
    have HROW := Lib.hid hrow
    clear hrow
    by_cases hjl : j < ps.length
    · have hx : ps[j]? = some ps[j] := List.getElem?_eq_getElem hjl
      obtain ⟨p, hpe⟩ : ∃ p, p = ps[j] := ⟨_, rfl⟩
      rw [← hpe] at hx
      clear hpe
      have hkey := key3 (HPM.out j p hx)
      obtain ⟨g2, cc2, he⟩ := HR2.out.shape_pos (by omega)
      injection he with he1 _ he2
      subst he1 he2
      have hcell := (HR2.out.turned0 Tr).cells rfl j _ (by rw [List.getElem?_map, hx]; rfl)
      have hxo := HX2.out.turned0 Tr
      obtain ⟨q0, q1, _⟩ := cells2 hxo.blk
      have hlk : (Instr.lookup 145 (.map (some mb)) (.int .i64 p) false).run Try.prog wo = .ok (.bool (decide (p ∈ gone))) wo := by
        rw [hxo.map.look law3 Try.underlying145 (zero4 _) hkey, inSet_get]
      have hts : thereB gone (ps.take (j + 1)) = thereB gone (ps.take j) ++ (if p ∈ gone then [] else [p]) := by
        rw [take_snoc' _ _ _ hx]
        unfold thereB
        rw [List.filter_append]
        by_cases h : p ∈ gone <;> simp [h]
      have HTS := Lib.hid hts
      clear hts hxo hx
      by_cases hm : p ∈ gone
      · have hd : decide (p ∈ gone) = true := by simpa using hm
        rw [hd] at hlk
        have HM := Lib.hid hm
        clear hm hd
        go_wp2_with fail
        go_roundg (gk - 1)
        case measure => have := HG.out; omega
        case rel =>
          refine ⟨j + 1, show _ = _ by have := HG.out; omega, by omega, by go_num, ?_, hown, Tr⟩
          rw [HTS.out, if_pos HM.out, List.append_nil]
          exact HROW.out
      · have hd : decide (p ∈ gone) = false := by simpa using hm
        rw [hd] at hlk
        obtain ⟨i0, hi0, hz0, hz1, hz2⟩ := info_parts infoN
        have HM := Lib.hid hm
        clear hm hd
        go_wp2_with (first
          | (at_builtin; refine append_some _ rfl _ _ 61 rfl 3 i0 (.int .i64 0) 1 8 Try.underlying61 hi0 hz0 hz1 hz2 rfl (by decide) _ _ _ rfl (HROW.out.alloc _) ⟨wo.heap.size, 0, none⟩ 1 1 [.int .i64 p] rfl rfl (cell_one_new _ _ _) (by simp [Value.oneCell']) (by omega) (by unfold maxLen; omega) (by omega) ?_; intro g6 cap6 w6 hown6 T6 hloc6))
        go_roundg (gk - 1)
        case measure => have := HG.out; omega
        case rel =>
          have hs0 := Tr.size
          refine ⟨j + 1, show _ = _ by have := HG.out; omega, by omega, by go_num, ?_, fun b' hb' => ?_, ?_⟩
          · rw [HTS.out, if_neg HM.out, List.length_append, List.length_singleton, List.map_append]
            exact hown6
          · rcases hloc6 with e | e
            · exact hown b' (e.symm.trans hb')
            · simp [Value.ownBlock] at hb'; simp at e; omega
          · refine (Tr.trans ((Turned.refl _ wo).alloc _)).step T6 (fun i hi h3 => ?_)
            have := hown i h3
            omega
    · have hje : j = ps.length := by omega
      go_wp2_with fail
      go_ret
      have hr := HROW.out
      rw [hje, List.take_length] at hr
      refine ⟨_, rfl, ?_, fun b hb => ?_, Tww.out.trans Tr⟩
      · rw [hje, List.take_length]; exact hr
      · have := hown b hb; omega
end Go.Proofs.Ytoihjobdfjajfaa

/- ints; sizarlaw16's awake. -/
namespace Go.Proofs.Ytoihjobdfjajfaa
set_option linter.unusedVariables false
set_option linter.unusedSimpArgs false
open Go.RowKit
attribute [local go_sem ↓] Go.wp_at_zero Go.wp_at_succ

set_option maxHeartbeats 800000 in
theorem ints58 {w : World} {v1 v2 : Value} {xs ys : List Int} (h1 : Row w 3 1 v1 xs.length (xs.map (Value.int .i64))) (h2 : Row w 3 1 v2 ys.length (ys.map (Value.int .i64))) :
    Calls Try.prog 58 #[v1, v2] w fun e w' => e = .returned (.bool (decide (xs = ys))) ∧ Turned (fun _ => False) w w' := by
  obtain ⟨a1, c1, rfl⟩ := h1.shape
  obtain ⟨a2, c2, rfl⟩ := h2.shape
  obtain ⟨m1, m2⟩ := h1.max
  obtain ⟨m3, m4⟩ := h2.max
  by_cases hl : xs.length = ys.length
  · have hlb : ((xs.length : Int) != (ys.length : Int)) = false := by simp; omega
    have HL := Lib.hid hl
    have hl1 : xs.length ≤ ys.length := by omega
    have hl2 : ys.length ≤ xs.length := by omega
    clear hl
    have H1 := Lib.hid h1
    have H2 := Lib.hid h2
    clear h1 h2
    go_enter Try.func58, Try.ntmps58
    go_wp2_with fail
    go_loopg [5] xs.length (fun g i wr => ∃ j : Nat, Hid (j + g = xs.length) ∧ j ≤ xs.length ∧ i = .int .i64 j ∧ Hid (xs.take j = ys.take j) ∧ Turned (fun _ => False) w wr)
    case atStart => exact ⟨0, Nat.zero_add _, Nat.zero_le _, rfl, rfl, Turned.refl _ _⟩
    case round =>
      obtain ⟨j, HG, hj, rfl, HE, Tr⟩ := hrel
      by_cases hjl : j < xs.length
      · have hx : xs[j]? = some xs[j] := List.getElem?_eq_getElem hjl
        have hy : ys[j]? = some (ys[j]'(by omega)) := List.getElem?_eq_getElem (by omega)
        obtain ⟨x, hxe⟩ : ∃ x, x = xs[j] := ⟨_, rfl⟩
        obtain ⟨y, hye⟩ : ∃ y, y = ys[j]'(by omega) := ⟨_, rfl⟩
        rw [← hxe] at hx
        rw [← hye] at hy
        obtain ⟨g1, rfl⟩ := H1.out.addr_pos (by omega)
        obtain ⟨g2, rfl⟩ := H2.out.addr_pos (by omega)
        have k1 := (H1.out.turned0 Tr).int_at hx
        have k2 := (H2.out.turned0 Tr).int_at hy
        have HX := Lib.hid hx
        have HY := Lib.hid hy
        clear hxe hye hx hy
        have z1 : (0 : Int) ≤ (j : Int) := by omega
        have z2 : (j : Int) < (ys.length : Int) := by omega
        by_cases hxy : x = y
        · subst hxy
          have hne : (x != x) = false := by simp
          go_wp2_with fail
          go_quiet (fail)
          go_wp2_with fail
          go_roundg (gk - 1)
          case measure => have := HG.out; omega
          case rel =>
            refine ⟨j + 1, show _ = _ by have := HG.out; omega, by omega, by go_num, ?_, Tr.trans ((Turned.refl _ _).drewN _)⟩
            show _ = _
            rw [take_snoc' _ _ _ HX.out, take_snoc' _ _ _ HY.out, HE.out]
        · have hne : (x != y) = true := by simp [hxy]
          have HN := Lib.hid hxy
          clear hxy
          go_wp2_with fail
          go_quiet (fail)
          go_wp2_with fail
          go_ret
          refine ⟨ret_bool ?_, Tr.trans ((Turned.refl _ _).drewN _)⟩
          symm
          rw [decide_eq_false_iff_not]
          intro e
          have hx := HX.out
          rw [e, HY.out] at hx
          injection hx with hx
          exact HN.out hx.symm
      · go_wp2_with fail
        go_ret
        refine ⟨ret_bool ?_, Tr⟩
        symm
        rw [decide_eq_true_eq]
        have h := HE.out
        rwa [List.take_of_length_le (by omega), List.take_of_length_le (by omega)] at h
  · have hlb : ((xs.length : Int) != (ys.length : Int)) = true := by simp; omega
    have HL := Lib.hid hl
    clear hl h1 h2
    go_enter Try.func58, Try.ntmps58
    go_wp2_with fail
    go_ret
    refine ⟨ret_bool ?_, Turned.refl _ _⟩
    symm
    rw [decide_eq_false_iff_not]
    intro e
    exact HL.out (by rw [e])

def kA : Key := ⟨2, 0, ⟨#[97]⟩, 0⟩
def kB : Key := ⟨2, 0, ⟨#[98]⟩, 0⟩
theorem pick_aw : pickB kA [Key.zero, kA, kB] 0 = [0, 1] := by decide
theorem keyOf_aw (a5 : Option Addr) (c5 : Nat) : keyOf (α := Option Addr × Nat) (.mk 2 0 ⟨#[112]⟩ (a5, c5) [leaf 2 0 ⟨#[97]⟩]) = kA := by kernel_rfl
theorem ofAw {w : World} {a5 : Option Addr} {c5 : Nat} (h : LT.In (fun _ => True) w (.mk 2 0 ⟨#[112]⟩ (a5, c5) [leaf 2 0 ⟨#[97]⟩])) :
    Calls Try.prog 42 #[.agg #[.int .i64 2, .int .i64 0, .string ⟨#[112]⟩, .slice a5 1 c5]] w fun e w' => e = .returned (.agg #[.int .i64 2, .int .i64 0, .string ⟨#[97]⟩, .int .i64 0]) ∧ Turned (fun _ => False) w w' := by
  refine (of42 (t := .mk 2 0 ⟨#[112]⟩ (a5, c5) [leaf 2 0 ⟨#[97]⟩]) h (slim_mk (by simp) (fun x hx => by rw [List.mem_singleton.1 hx]; intro y hy; simp [leaf, Tm.flat, Tm.flats] at hy; subst hy; simp [Tm.args]))).mono ?_
  rintro e w' ⟨rfl, ht⟩
  rw [keyOf_aw]
  exact ⟨rfl, ht⟩
set_option maxRecDepth 100000 in
set_option maxHeartbeats 3200000 in
theorem awake40 (w : World) : Calls Try.prog 40 #[] w fun e w' => e = .returned (.bool true) ∧ Turned (fun _ => False) w w' := by
  have hk : KSl (w.alloc (.cells #[.int .i64 0, .int .i64 0, .string ⟨#[]⟩, .int .i64 0, .int .i64 2, .int .i64 0, .string ⟨#[97]⟩, .int .i64 0, .int .i64 2, .int .i64 0, .string ⟨#[98]⟩, .int .i64 0] 35)) (some ⟨w.heap.size, 0, none⟩) 3 [Key.zero, kA, kB] := by
    refine ⟨(fun e => by cases e), fun _ => ⟨_, _, rfl, fun j u hu => ?_⟩, Nat.le_refl _, by simp⟩
    rw [Nat.zero_add, boxed]
    have : (#[.int .i64 0, .int .i64 0, .string ⟨#[]⟩, .int .i64 0, .int .i64 2, .int .i64 0, .string ⟨#[97]⟩, .int .i64 0, .int .i64 2, .int .i64 0, .string ⟨#[98]⟩, .int .i64 0] : Array Value)[j]? = ([Key.zero, kA, kB].flatMap Key.cells)[j]? := by
      rw [← Array.getElem?_toList]; rfl
    rw [this, hu]
  have HK := Lib.hid hk
  have T0 := (Turned.refl (fun _ => False) w).alloc (.cells #[.int .i64 0, .int .i64 0, .string ⟨#[]⟩, .int .i64 0, .int .i64 2, .int .i64 0, .string ⟨#[97]⟩, .int .i64 0, .int .i64 2, .int .i64 0, .string ⟨#[98]⟩, .int .i64 0] 35)
  have HT0 := Lib.hid T0
  clear hk T0
  go_enter Try.func40, Try.ntmps40
  go_wp2_with fail
  revert HK HT0
  generalize w.alloc (.cells #[.int .i64 0, .int .i64 0, .string ⟨#[]⟩, .int .i64 0, .int .i64 2, .int .i64 0, .string ⟨#[97]⟩, .int .i64 0, .int .i64 2, .int .i64 0, .string ⟨#[98]⟩, .int .i64 0] 35) = w1
  intro HK HT0
  have hkeep : ∀ W, Turned (fun _ => False) w1 W → (Turned (fun _ => False) w1 W ∧ W.cell? ⟨w.heap.size, 4, none⟩ = some (.int .i64 2) ∧ W.cell? ⟨w.heap.size, 5, none⟩ = some (.int .i64 0) ∧ W.cell? ⟨w.heap.size, 6, none⟩ = some (.string ⟨#[97]⟩) ∧ W.cell? ⟨w.heap.size, 7, none⟩ = some (.int .i64 0)) := by
    intro W h
    have := (HK.out.turned0 h).at (i := 1) (x := kA) rfl
    simp only [Nat.zero_add, Nat.one_mul, Nat.reduceAdd] at this
    exact ⟨h, this⟩
  have HKP := Lib.hid hkeep
  clear hkeep
  have hq : ∀ W, (binOp .eql 35 (.agg #[.int .i64 2, .int .i64 0, .string ⟨#[97]⟩, .int .i64 0]) (.agg #[.int .i64 2, .int .i64 0, .string ⟨#[97]⟩, .int .i64 0])).run Try.prog W = .ok (.bool true) W := fun W => by have := key_eql kA kA W; simpa [kA] using this
  go_region_held3 (fun W => Turned (fun _ => False) w1 W ∧ W.cell? ⟨w.heap.size, 4, none⟩ = some (.int .i64 2) ∧ W.cell? ⟨w.heap.size, 5, none⟩ = some (.int .i64 0) ∧ W.cell? ⟨w.heap.size, 6, none⟩ = some (.string ⟨#[97]⟩) ∧ W.cell? ⟨w.heap.size, 7, none⟩ = some (.int .i64 0))
    (first
      | exact HKP.out _ (Turned.refl _ _).drew
      | exact HKP.out _ ((Turned.refl _ _).drew.alloc _)
      | exact HKP.out _ ((show Turned (fun _ => False) w1 _ ∧ _ from by assumption).1.alloc _)
      | exact HKP.out _ (Turned.trans (show Turned (fun _ => False) w1 _ ∧ _ from by assumption).1 T6)
      | exact HKP.out _ (Turned.trans (show Turned (fun _ => False) w1 _ ∧ _ from by assumption).1 T5)
      | exact HKP.out _ (Turned.trans (show Turned (fun _ => False) w1 _ ∧ _ from by assumption).1 T4)
      | exact HKP.out _ (Turned.trans (show Turned (fun _ => False) w1 _ ∧ _ from by assumption).1 T3)
      | exact HKP.out _ (Turned.trans (show Turned (fun _ => False) w1 _ ∧ _ from by assumption).1 T2))
    (first
      | (go_at_call 60; refine (pick60 (ks := [Key.zero, kA, kB]) kA (HK.out.turned0 (by first | exact (Turned.refl _ _).drew | exact (Turned.refl _ _).drew.alloc _)) (by decide)).mono ?_; rintro e w2 ⟨v2, rfl, r2, n2, T2⟩)
      | (go_at_call 58; refine (ints58 (xs := [0, 1]) (ys := [0, 1]) (show Row _ 3 1 v2 2 [.int .i64 0, .int .i64 1] from by first | exact r2.alloc _ | exact r2) (show Row _ 3 1 _ 2 [.int .i64 0, .int .i64 1] from by first | exact Row.made _ 3 1 #[.int .i64 0, .int .i64 1] 2 rfl (by decide) | exact (Row.made w1.drew 3 1 #[.int .i64 0, .int .i64 1] 2 rfl (by decide)).turned0 T2)).mono ?_; rintro e w3 ⟨rfl, T3⟩)
      | (go_at_call 63; refine (atomV ⟨#[97]⟩ (by unfold maxLen; decide) _).mono ?_; rintro e w4 ⟨rfl, i4, T4⟩)
      | (go_at_call 37; refine (compV ⟨#[112]⟩ (by unfold maxLen; decide) 1 (by decide) rfl (sl_made (l := [leaf 2 0 ⟨#[97]⟩]) ⟨i4, trivial⟩ 1 (by decide) rfl _ rfl)).mono ?_; rintro e w5 ⟨a5, c5, rfl, i5, T5⟩)
      | (go_at_call 42; refine (ofAw i5).mono ?_; rintro e w6 ⟨rfl, T6⟩))
  all_goals
    go_wp2_with fail
    go_ret
    exact ⟨rfl, HT0.out.trans (show Turned (fun _ => False) w1 w6 ∧ _ from by assumption).1⟩
end Go.Proofs.Ytoihjobdfjajfaa

/- IndexAll's walk. -/
namespace Go.Proofs.Ytoihjobdfjajfaa
set_option linter.unusedVariables false
set_option linter.unusedSimpArgs false
open Go.RowKit Go.Maps
attribute [local go_sem ↓] Go.wp_at_zero Go.wp_at_succ

/-- A slice of ints that came in from anywhere. -/
structure ISl (w : World) (a : Option Addr) (c : Nat) (xs : List Int) : Prop where
  none_ : a = none → xs.length = 0 ∧ c = 0
  lies : 0 < xs.length → ∃ b o, a = some ⟨b, o, none⟩ ∧ ∀ (j : Nat) x, xs[j]? = some x → w.cell? ⟨b, o + j, none⟩ = some (.int .i64 x)
  cap : xs.length ≤ c
  max : c ≤ 9223372036854775807
  wf : ∀ x ∈ xs, I64 x
theorem ISl.turned0 {w w' : World} {a : Option Addr} {c : Nat} {xs : List Int} (h : ISl w a c xs) (ht : Turned (fun _ => False) w w') : ISl w' a c xs := by
  refine ⟨h.none_, fun hp => ?_, h.cap, h.max, h.wf⟩
  obtain ⟨b, o, he, hc⟩ := h.lies hp
  exact ⟨b, o, he, fun j u hu => ht.cell (hc j u hu) (fun f => f)⟩
theorem ISl.at {w : World} {b o c : Nat} {xs : List Int} (h : ISl w (some ⟨b, o, none⟩) c xs) {i : Nat} {x : Int} (hi : xs[i]? = some x) : w.cell? ⟨b, o + i, none⟩ = some (.int .i64 x) := by
  obtain ⟨b', o', e, hc⟩ := h.lies (by have := (List.getElem?_eq_some_iff.1 hi).1; omega)
  injection e with e
  injection e with e1 e2
  subst e1 e2
  exact hc _ _ hi

/-- A row of bools of the call's own. -/
def BIn (lb n : Nat) (f : Nat → Bool) (w : World) : Prop := w.heap[lb]? = some (.cells ((List.range n).map fun i => Value.bool (f i)).toArray 4 (0, 0))
section
variable {lb n : Nat} {f : Nat → Bool} {w w' : World}
theorem BIn.cell (h : BIn lb n f w) {j : Nat} (hj : j < n) : w.cell? ⟨lb, j, none⟩ = some (.bool (f j)) := by
  have c := cell_of_row w lb j _ 4 (0, 0) h
  rw [c]
  simp [hj]
theorem BIn.free (h : BIn lb n f w) (j : Nat) : w.frozen? ⟨lb, j, none⟩ = false := frozen_of_row w lb j _ 4 h
theorem BIn.congr (h : BIn lb n f w) {g : Nat → Bool} (e : ∀ i, i < n → f i = g i) : BIn lb n g w := by
  unfold BIn at h ⊢
  rw [h]
  congr 2
  congr 1
  exact List.map_congr_left fun i hi => by rw [e i (List.mem_range.1 hi)]
theorem BIn.turned {S : Nat → Prop} (h : BIn lb n f w) (ht : Turned S w w') (hS : ¬ S lb) : BIn lb n f w' := (ht.block lb (Array.getElem?_eq_some_iff.1 h).1 hS).trans h
theorem BIn.lt (h : BIn lb n f w) : lb < w.heap.size := (Array.getElem?_eq_some_iff.1 h).1
theorem BIn.set (h : BIn lb n f w) {j : Nat} (hj : j < n) (b : Bool) : BIn lb n (fun i => if i = j then b else f i) (w.setCell ⟨lb, j, none⟩ (.bool b)) := by
  have c := heap_setCell_same w lb j _ 4 (.bool b) h
  unfold BIn
  rw [c]
  congr 2
  apply Array.ext
  · simp
  · intro i h1 h2
    by_cases e : i = j
    · subst e; simp
    · simp [List.getElem_set, e, fun e' : j = i => e e'.symm]
      intro e'; exact absurd e'.symm e
theorem BIn.made (w : World) (n : Nat) : BIn w.heap.size n (fun _ => false) (w.alloc (.cells (madeCells #[.bool false] n) 4)) := by
  have := heap_alloc_new w (.cells (madeCells #[.bool false] n) 4)
  unfold BIn
  rw [this]
  congr 2
  apply Array.toList_inj.1
  rw [toList_madeCells_one, List.map_const', List.length_range]
end
/-- What lies in memory while IndexAll runs. -/
structure AllIn (w0 : World) (xb mb lb n : Nat) (v : Value) (ks : List Key) (gone : List Int) (f : Nat → Bool) (w : World) : Prop where
  idx : IdxIn xb mb v ks gone w
  bools : BIn lb n f w
  apart : ∀ k, MineX xb mb v k → k ≠ lb ∧ w0.heap.size ≤ k
  lbge : w0.heap.size ≤ lb
  turned : Turned (fun _ => False) w0 w
section
variable {w0 : World} {xb mb lb n : Nat} {v v' : Value} {ks ks' : List Key} {gone gone' : List Int} {f : Nat → Bool} {w w' : World}
theorem AllIn.turned0 (h : AllIn w0 xb mb lb n v ks gone f w) (ht : Turned (fun _ => False) w w') : AllIn w0 xb mb lb n v ks gone f w' :=
  ⟨h.idx.turned0 ht, h.bools.turned ht (fun f => f), h.apart, h.lbge, h.turned.trans ht⟩
theorem AllIn.moved (h : AllIn w0 xb mb lb n v ks gone f w) (hi : IdxIn xb mb v' ks' gone' w') (ht : Turned (MineX xb mb v) w w') (hv : v'.ownBlock = v.ownBlock ∨ ∃ g, v'.ownBlock = some g ∧ w.heap.size ≤ g) : AllIn w0 xb mb lb n v' ks' gone' f w' := by
  refine ⟨hi, h.bools.turned ht (fun m => (h.apart _ m).1 rfl), fun k hk => ?_, h.lbge, h.turned.step ht (fun i hi hm => by have := (h.apart _ hm).2; omega)⟩
  rcases hk with e | e | e
  · exact h.apart k (.inl e)
  · exact h.apart k (.inr (.inl e))
  · rcases hv with h1 | ⟨g, h1, h2⟩
    · exact h.apart k (.inr (.inr (by rw [← h1]; exact e)))
    · rw [h1] at e
      injection e with e
      subst e
      have := h.bools.lt
      have := h.turned.size
      omega
theorem AllIn.store (h : AllIn w0 xb mb lb n v ks gone f w) {j : Nat} (hj : j < n) (b : Bool) : AllIn w0 xb mb lb n v ks gone (fun i => if i = j then b else f i) (w.setCell ⟨lb, j, none⟩ (.bool b)) :=
  ⟨h.idx.turned ((Turned.refl (· = lb) w).setCell (.inr rfl) _) (fun k _ e hm => (h.apart k hm).1 e), h.bools.set hj b, h.apart, h.lbge, h.turned.setCell (.inl h.lbge) _⟩
theorem AllIn.congr (h : AllIn w0 xb mb lb n v ks gone f w) {g : Nat → Bool} (e : ∀ i, i < n → f i = g i) : AllIn w0 xb mb lb n v ks gone g w := ⟨h.idx, h.bools.congr e, h.apart, h.lbge, h.turned⟩
end

/-- What is let go by a list of drops. -/
def goneB (n : Nat) : List Int → List Int → List Int
  | g, [] => g
  | g, d :: l => goneB n (if dropB n g d then g ++ [d] else g) l
theorem goneB_snoc (n : Nat) (g l : List Int) (d : Int) : goneB n g (l ++ [d]) = (if dropB n (goneB n g l) d then goneB n g l ++ [d] else goneB n g l) := by
  induction l generalizing g with
  | nil => rfl
  | cons x l ih => simp only [List.cons_append, goneB]; exact ih _
theorem goneB_len (n : Nat) (g l : List Int) : (goneB n g l).length ≤ g.length + l.length := by
  induction l generalizing g with
  | nil => simp [goneB]
  | cons x l ih =>
    simp only [goneB, List.length_cons]
    have := ih (if dropB n g x then g ++ [x] else g)
    cases hd : dropB n g x with
    | true =>
      rw [hd] at this
      simp only [if_true, List.length_append, List.length_singleton] at this ⊢
      omega
    | false =>
      rw [hd] at this
      simp only [Bool.false_eq_true, if_false] at this ⊢
      omega

def idxs (j : Nat) : List Int := (List.range j).map fun i : Nat => (i : Int)
theorem idxs_snoc (j : Nat) : idxs (j + 1) = idxs j ++ [(j : Int)] := by unfold idxs; rw [List.range_succ, List.map_append]; rfl
theorem mayB_zero (x : Key) : mayB x Key.zero = true := by unfold mayB; simp [Key.zero]
theorem mayB_self (x : Key) : mayB x x = true := by unfold mayB; simp
theorem pickB_zero (ks : List Key) : pickB Key.zero ks 0 = idxs ks.length := by
  have : ∀ (l : List Key) i, pickB Key.zero l i = (List.range l.length).map fun j => ((i + j : Nat) : Int) := by
    intro l
    induction l with
    | nil => intro i; rfl
    | cons x l ih =>
      intro i
      simp only [pickB, mayB_zero, if_true, ih, List.length_cons, List.range_succ_eq_map, List.map_cons, List.map_map]
      congr 1
      apply List.map_congr_left
      intro a _
      simp
      omega
  rw [this]
  simp [idxs]
theorem pickB_at {k x : Key} {l : List Key} {i j : Nat} (h : l[j]? = some x) : ((i + j : Nat) : Int) ∈ pickB k l i ↔ mayB x k = true := by
  induction l generalizing i j with
  | nil => simp at h
  | cons y l ih =>
    simp only [pickB]
    cases j with
    | zero =>
      simp at h
      subst h
      have hno : ((i : Nat) : Int) ∉ pickB k l (i + 1) := fun hm => by have := (pickB_mem hm).1; omega
      cases hm : mayB y k with
      | true => simp
      | false => simpa using hno
    | succ j =>
      simp at h
      have := ih (i := i + 1) h
      rw [show i + 1 + j = i + (j + 1) by omega] at this
      cases hm : mayB y k with
      | true =>
        simp only [if_true, List.mem_cons]
        rw [← this]
        constructor
        · rintro (e | e)
          · omega
          · exact e
        · exact .inr
      | false => simpa using this
theorem found_eq {ks : List Key} {x : Key} {gone : List Int} {j : Nat} (h : ks[j]? = some x) : decide ((j : Int) ∈ thereB gone (pickB x ks 0)) = !decide ((j : Int) ∈ gone) := by
  have := pickB_at (k := x) (i := 0) h
  rw [Nat.zero_add, mayB_self] at this
  simp at this
  unfold thereB
  rw [Bool.eq_iff_iff]
  simp [this]
theorem all_close {gone : List Int} {j : Nat} {a5 : Option Addr} {c5 g6 cap6 : Nat} {wq wp w6 : World} {o : Obj} (hdm : decide ((j : Int) ∈ gone) = false) (hr : Row wp 3 1 (.slice a5 (thereB gone (idxs j)).length c5) (thereB gone (idxs j)).length ((thereB gone (idxs j)).map (Value.int .i64)) ∧ (∀ b, (Value.slice a5 (thereB gone (idxs j)).length c5).ownBlock = some b → wq.heap.size ≤ b) ∧ Turned (fun _ => False) wq wp)
    (h6 : Row w6 3 1 (.slice (some ⟨g6, 0, none⟩) ((thereB gone (idxs j)).length + 1) cap6) ((thereB gone (idxs j)).length + 1) ((thereB gone (idxs j)).map (Value.int .i64) ++ [.int .i64 j])) (T6 : Turned (fun k => (Value.slice a5 (thereB gone (idxs j)).length c5).ownBlock = some k) (wp.alloc o) w6)
    (hloc : some g6 = (Value.slice a5 (thereB gone (idxs j)).length c5).ownBlock ∨ g6 = (wp.alloc o).heap.size) :
    Row w6 3 1 (.slice (some ⟨g6, 0, none⟩) ((thereB gone (idxs j)).length + 1) cap6) (thereB gone (idxs (j + 1))).length ((thereB gone (idxs (j + 1))).map (Value.int .i64)) ∧ (∀ b, (Value.slice (some ⟨g6, 0, none⟩) ((thereB gone (idxs j)).length + 1) cap6).ownBlock = some b → wq.heap.size ≤ b) ∧ Turned (fun _ => False) wq w6 := by
  have e : thereB gone (idxs (j + 1)) = thereB gone (idxs j) ++ [(j : Int)] := by
    rw [idxs_snoc]
    unfold thereB
    rw [List.filter_append]
    simp [of_decide_eq_false hdm]
  have s1 := hr.2.2.size
  refine ⟨?_, fun b hb => ?_, (hr.2.2.alloc o).step T6 (fun i hi h => by have := hr.2.1 i h; omega)⟩
  · rw [e, List.length_append, List.length_singleton, List.map_append]
    exact h6
  · simp [Value.ownBlock] at hb
    subst hb
    rcases hloc with e | e
    · exact hr.2.1 _ e.symm
    · simp at e; omega
theorem infoB : (Try.prog.info? 4).map (fun i => (i.zero, i.size, i.bytes)) = some (some (.bool false), 1, 1) := by kernel_rfl
set_option maxRecDepth 100000 in
set_option maxHeartbeats 6400000 in
theorem indexAll {w : World} {a1 a2 : Option Addr} {c1 c2 : Nat} {ks : List Key} {ds : List Int} (hk : KSl w a1 c1 ks) (hd : ISl w a2 c2 ds) :
    Calls Try.prog 7 #[.slice a1 ks.length c1, .slice a2 ds.length c2] w fun e w' => e = .returned (.bool true) ∧ Turned (fun _ => False) w w' := by
  have kc := hk.cap
  have km := hk.max
  have dc := hd.cap
  have dm := hd.max
  have HK := Lib.hid hk
  have HD := Lib.hid hd
  clear hk hd
  by_cases h1 : 60 < ks.length
  · have hb : decide ((60 : Int) < (ks.length : Int)) = true := by rw [decide_eq_true_eq]; omega
    clear h1
    go_enter Try.func7, Try.ntmps7
    go_wp2_with (first
      | (go_at_call 40; refine (awake40 _).mono ?_; rintro e w1 ⟨rfl, T1⟩))
    go_ret
    exact ⟨rfl, T1⟩
  have hb : decide ((60 : Int) < (ks.length : Int)) = false := by rw [decide_eq_false_iff_not]; omega
  by_cases h2 : 60 < ds.length
  · have hb2 : decide ((60 : Int) < (ds.length : Int)) = true := by rw [decide_eq_true_eq]; omega
    clear h1 h2
    go_enter Try.func7, Try.ntmps7
    go_wp2_with (first
      | (go_at_call 40; refine (awake40 _).mono ?_; rintro e w1 ⟨rfl, T1⟩))
    go_ret
    exact ⟨rfl, T1⟩
  have hb2 : decide ((60 : Int) < (ds.length : Int)) = false := by rw [decide_eq_false_iff_not]; omega
  have l1 : ks.length ≤ 60 := by omega
  have l2 : ds.length ≤ 60 := by omega
  clear h1 h2
  obtain ⟨i0, hi0, hz0, hz1, hz2⟩ := info_parts infoB
  go_enter Try.func7, Try.ntmps7
  go_wp2_with (first
    | (go_at_call 40; refine (awake40 _).mono ?_; rintro e w1 ⟨rfl, T1⟩)
    | (go_at_call 53; refine (new53 _).mono ?_; rintro e w2 ⟨rfl, X2, T2⟩)
    | (at_make; refine wpList_make_row _ rfl _ _ 56 rfl 4 i0 (.bool false) Try.underlying56 hi0 hz0 hz1 rfl _ _ ks.length rfl rfl (by rw [hz2]; omega) (by omega) ?_))
  have HA : Hid (AllIn w (w1.heap.size + 1) w1.heap.size w2.heap.size ks.length (.slice none 0 0) (ks.take 0) [] (fun i => decide (i < 0)) (w2.alloc (.cells (madeCells #[.bool false] ks.length) 4))) := by
    have s1 := T1.size
    have s2 := T2.size
    have lx := X2.lt
    refine ⟨X2.turned0 ((Turned.refl _ _).alloc _), (BIn.made w2 ks.length).congr (by simp), fun k hk => ?_, by omega, (T1.trans T2).alloc _⟩
    have := lx k hk
    rcases hk with rfl | rfl | e
    · omega
    · omega
    · simp [Value.ownBlock] at e
  clear X2 T1 T2 hi0 hz0 hz1 hz2
  revert HA
  generalize w2.alloc (.cells (madeCells #[.bool false] ks.length) 4) = w3
  generalize w1.heap.size + 1 = xb
  generalize w1.heap.size = mb
  generalize w2.heap.size = lb
  intro HA
  go_loopg [7] ks.length (fun g i wr => ∃ j : Nat, Hid (j + g = ks.length) ∧ j ≤ ks.length ∧ i = .int .i64 j ∧ Hid (∃ v, AllIn w xb mb lb ks.length v (ks.take j) [] (fun i => decide (i < j)) wr))
  case atStart => exact ⟨0, Nat.zero_add _, Nat.zero_le _, rfl, _, HA.out⟩
  case round =>
    obtain ⟨j, HG, hj, rfl, HV⟩ := hrel
    obtain ⟨wo, rfl⟩ : ∃ wo : World, wo = wr := ⟨_, rfl⟩
    by_cases hjl : j < ks.length
    · obtain ⟨v, HV⟩ : ∃ v, Hid (AllIn w xb mb lb ks.length v (ks.take j) [] (fun i => decide (i < j)) wo) := by
        obtain ⟨v, h⟩ := HV.out
        exact ⟨v, h⟩
      obtain ⟨b, o, rfl, _⟩ := HK.out.lies (by omega)
      have hx : ks[j]? = some ks[j] := List.getElem?_eq_getElem hjl
      obtain ⟨x, hxe⟩ : ∃ x, x = ks[j] := ⟨_, rfl⟩
      rw [← hxe] at hx
      clear hxe
      obtain ⟨q0, q1, q2, q3⟩ := (HK.out.turned0 HV.out.turned).at hx
      have hadd := add54 HV.out.idx x (by rw [List.length_take]; omega)
      unfold Key.val at hadd
      rw [List.length_take, Nat.min_eq_left hj, ← take_snoc' _ _ _ hx] at hadd
      have HADD := Lib.hid hadd
      clear hadd hx
      go_wp2_with (first
        | (go_at_call 54; (with_reducible refine (HADD.out).mono ?_); rintro e w4 ⟨rfl, v4, X4, T4, hv4⟩; have HA4 := Lib.hid (HV.out.moved X4 T4 hv4); have hcell := HA4.out.bools.cell hjl; have hfree := HA4.out.bools.free j; clear X4 T4 hv4))
      go_roundg (gk - 1)
      case measure => have := HG.out; omega
      case rel =>
        refine ⟨j + 1, show _ = _ by have := HG.out; omega, by omega, by go_num, v4, (HA4.out.store hjl true).congr fun i hi => ?_⟩
        by_cases e : i = j
        · rw [if_pos e]; symm; rw [decide_eq_true_eq]; omega
        · rw [if_neg e]; rw [decide_eq_decide]; omega
    · obtain rfl : j = ks.length := by omega
      obtain ⟨v, HV⟩ : ∃ v, Hid (AllIn w xb mb lb ks.length v ks [] (fun i => !decide ((i : Int) ∈ goneB ks.length [] (ds.take 0))) wo) := by
        obtain ⟨v, h⟩ := HV.out
        rw [List.take_length] at h
        exact ⟨v, h.congr fun i hi => by simp [goneB, hi]⟩
      clear HG hj hjl HA
      go_wp2_with fail
      go_loopg [8] ds.length (fun g i wr => ∃ j : Nat, Hid (j + g = ds.length) ∧ j ≤ ds.length ∧ i = .int .i64 j ∧ Hid (∃ v, AllIn w xb mb lb ks.length v ks (goneB ks.length [] (ds.take j)) (fun i => !decide ((i : Int) ∈ goneB ks.length [] (ds.take j))) wr))
      case atStart => exact ⟨0, Nat.zero_add _, Nat.zero_le _, rfl, _, HV.out⟩
      case round =>
        obtain ⟨j, HG, hj, rfl, HV⟩ := hrel
        obtain ⟨wq, rfl⟩ : ∃ wq : World, wq = wr := ⟨_, rfl⟩
        by_cases hjl : j < ds.length
        · obtain ⟨v, HV⟩ : ∃ v, Hid (AllIn w xb mb lb ks.length v ks (goneB ks.length [] (ds.take j)) (fun i => !decide ((i : Int) ∈ goneB ks.length [] (ds.take j))) wq) := by
            obtain ⟨v, h⟩ := HV.out
            exact ⟨v, h⟩
          obtain ⟨b, o, rfl, _⟩ := HD.out.lies (by omega)
          have hx : ds[j]? = some ds[j] := List.getElem?_eq_getElem hjl
          obtain ⟨d, hxe⟩ : ∃ d, d = ds[j] := ⟨_, rfl⟩
          rw [← hxe] at hx
          clear hxe
          have q0 := (HD.out.turned0 HV.out.turned).at hx
          have hgl := goneB_len ks.length [] (ds.take j)
          rw [List.length_take] at hgl
          have hdrop := drop55 HV.out.idx d (HD.out.wf d (List.mem_of_getElem? hx)) (by simp at hgl; omega)
          have hgs := goneB_snoc ks.length [] (ds.take j) d
          rw [← take_snoc' _ _ _ hx] at hgs
          obtain ⟨gone, hgo⟩ : ∃ gone, gone = goneB ks.length [] (ds.take j) := ⟨_, rfl⟩
          rw [← hgo] at hgs hdrop HV
          have HGS := Lib.hid hgs
          have HX := Lib.hid hx
          have HDROP := Lib.hid hdrop
          clear hgo hgl hgs hdrop hx
          by_cases hd0 : d < 0
          · have HB : Hid (dropB ks.length gone d = false) := by show _ = _; unfold dropB; simp; omega
            have e0 : decide (0 ≤ d) = false := by rw [decide_eq_false_iff_not]; omega
            have hdrop := HDROP.out
            rw [HB.out, if_neg (by decide)] at hdrop
            have HDROP := Lib.hid hdrop
            clear hdrop hd0
            go_wp2_with (first
              | (go_at_call 55; (with_reducible refine (HDROP.out).mono ?_); rintro e w5 ⟨rfl, X5, T5⟩; have HA5 := Lib.hid (HV.out.moved X5 T5 (.inl rfl)); have q5 := (HD.out.turned0 HA5.out.turned).at HX.out; clear X5 T5))
            go_roundg (gk - 1)
            case measure => have := HG.out; omega
            case rel =>
              refine ⟨j + 1, show _ = _ by have := HG.out; omega, by omega, by go_num, v, ?_⟩
              rw [HGS.out, HB.out, if_neg (by decide)]
              exact HA5.out
          · have e0 : decide (0 ≤ d) = true := by rw [decide_eq_true_eq]; omega
            by_cases hd1 : (ks.length : Int) ≤ d
            · have HB : Hid (dropB ks.length gone d = false) := by show _ = _; unfold dropB; simp; omega
              have e1 : decide (d < (ks.length : Int)) = false := by rw [decide_eq_false_iff_not]; omega
              have hdrop := HDROP.out
              rw [HB.out, if_neg (by decide)] at hdrop
              have HDROP := Lib.hid hdrop
              clear hdrop hd0 hd1
              go_wp2_with (first
                | (go_at_call 55; (with_reducible refine (HDROP.out).mono ?_); rintro e w5 ⟨rfl, X5, T5⟩; have HA5 := Lib.hid (HV.out.moved X5 T5 (.inl rfl)); have q5 := (HD.out.turned0 HA5.out.turned).at HX.out; clear X5 T5))
              go_roundg (gk - 1)
              case measure => have := HG.out; omega
              case rel =>
                refine ⟨j + 1, show _ = _ by have := HG.out; omega, by omega, by go_num, v, ?_⟩
                rw [HGS.out, HB.out, if_neg (by decide)]
                exact HA5.out
            · obtain ⟨m, rfl⟩ : ∃ m : Nat, d = (m : Int) := ⟨d.toNat, by omega⟩
              have hml : m < ks.length := by omega
              have e1 : decide ((m : Int) < (ks.length : Int)) = true := by rw [decide_eq_true_eq]; omega
              have hcell := HV.out.bools.cell hml
              clear hd0 hd1
              by_cases hm : (m : Int) ∈ gone
              · have HB : Hid (dropB ks.length gone m = false) := by show _ = _; unfold dropB; simp [hm]
                have hdm : decide ((m : Int) ∈ gone) = true := by simpa using hm
                rw [hdm] at hcell
                have hdrop := HDROP.out
                rw [HB.out, if_neg (by decide)] at hdrop
                have HDROP := Lib.hid hdrop
                clear hdrop hm hdm
                go_wp2_with (first
                  | (go_at_call 55; (with_reducible refine (HDROP.out).mono ?_); rintro e w5 ⟨rfl, X5, T5⟩; have HA5 := Lib.hid (HV.out.moved X5 T5 (.inl rfl)); have q5 := (HD.out.turned0 HA5.out.turned).at HX.out; clear X5 T5))
                go_roundg (gk - 1)
                case measure => have := HG.out; omega
                case rel =>
                  refine ⟨j + 1, show _ = _ by have := HG.out; omega, by omega, by go_num, v, ?_⟩
                  rw [HGS.out, HB.out, if_neg (by decide)]
                  exact HA5.out
              · have HB : Hid (dropB ks.length gone m = true) := by show _ = _; unfold dropB; simp [hm, hml]
                have hdm : decide ((m : Int) ∈ gone) = false := by simpa using hm
                rw [hdm] at hcell
                have hdrop := HDROP.out
                rw [HB.out, if_pos rfl] at hdrop
                have HDROP := Lib.hid hdrop
                clear hdrop hm hdm
                go_wp2_with (first
                  | (go_at_call 55; (with_reducible refine (HDROP.out).mono ?_); rintro e w5 ⟨rfl, X5, T5⟩; have HA5 := Lib.hid (HV.out.moved X5 T5 (.inl rfl)); have q5 := (HD.out.turned0 HA5.out.turned).at HX.out; have hcell5 := HA5.out.bools.cell hml; have hfree5 := HA5.out.bools.free m; clear X5 T5))
                go_roundg (gk - 1)
                case measure => have := HG.out; omega
                case rel =>
                  refine ⟨j + 1, show _ = _ by have := HG.out; omega, by omega, by go_num, v, ?_⟩
                  rw [HGS.out, HB.out, if_pos rfl]
                  refine (HA5.out.store hml false).congr fun i hi => ?_
                  by_cases e : i = m
                  · subst e; simp
                  · rw [if_neg e]; simp; omega
        · obtain rfl : j = ds.length := by omega
          rw [List.take_length] at HV
          obtain ⟨gone, hgo⟩ : ∃ gone, gone = goneB ks.length [] ds := ⟨_, rfl⟩
          rw [← hgo] at HV
          clear hgo HG hj hjl
          obtain ⟨v, HV⟩ : ∃ v, Hid (AllIn w xb mb lb ks.length v ks gone (fun i => !decide ((i : Int) ∈ gone)) wq) := by
            obtain ⟨v, h⟩ := HV.out
            exact ⟨v, h⟩
          go_wp2_with fail
          go_loopg [10, 11] ks.length (fun g all i wr => ∃ j : Nat, Hid (j + g = ks.length) ∧ j ≤ ks.length ∧ i = .int .i64 j ∧ Hid (Row wr 3 1 all (thereB gone (idxs j)).length ((thereB gone (idxs j)).map (Value.int .i64)) ∧ (∀ b, all.ownBlock = some b → wq.heap.size ≤ b) ∧ Turned (fun _ => False) wq wr))
          case atStart => exact ⟨0, Nat.zero_add _, Nat.zero_le _, rfl, Row.nil _ _ _, fun b hb => by simp [Value.ownBlock] at hb, Turned.refl _ _⟩
          case round =>
            obtain ⟨j, HG, hj, rfl, HR⟩ := hrel
            obtain ⟨wp, rfl⟩ : ∃ wp : World, wp = wr := ⟨_, rfl⟩
            obtain ⟨a5, c5, rfl⟩ := HR.out.1.shape
            obtain ⟨gp, rfl⟩ : ∃ gp : Nat, gp = gk := ⟨_, rfl⟩
            have hln : (thereB gone (idxs j)).length ≤ 60 := by
              have := List.length_filter_le (fun i => !decide (i ∈ gone)) (idxs j)
              unfold thereB
              have : (idxs j).length = j := by simp [idxs]
              omega
            by_cases hjl : j < ks.length
            · obtain ⟨b, o, rfl, _⟩ := HK.out.lies (by omega)
              have hx : ks[j]? = some ks[j] := List.getElem?_eq_getElem hjl
              obtain ⟨x, hxe⟩ : ∃ x, x = ks[j] := ⟨_, rfl⟩
              rw [← hxe] at hx
              clear hxe
              have hcell := (HV.out.turned0 HR.out.2.2).bools.cell hjl
              obtain ⟨ps, HPS⟩ : ∃ ps, Hid (ps = thereB gone (pickB x ks 0) ∧ decide ((j : Int) ∈ ps) = !decide ((j : Int) ∈ gone)) := ⟨_, rfl, found_eq hx⟩
              have HX := Lib.hid hx
              clear hx
              cases hdm : decide ((j : Int) ∈ gone) with
              | true =>
                rw [hdm] at hcell
                have HN : Hid (Row wp 3 1 (.slice a5 (thereB gone (idxs j)).length c5) (thereB gone (idxs (j + 1))).length ((thereB gone (idxs (j + 1))).map (Value.int .i64)) ∧ (∀ b, (Value.slice a5 (thereB gone (idxs j)).length c5).ownBlock = some b → wq.heap.size ≤ b) ∧ Turned (fun _ => False) wq wp) := by
                  have : thereB gone (idxs (j + 1)) = thereB gone (idxs j) := by
                    rw [idxs_snoc]
                    unfold thereB
                    rw [List.filter_append]
                    simp [of_decide_eq_true hdm]
                  rw [this]
                  exact HR.out
                have HA := Lib.hid (HV.out.turned0 HN.out.2.2)
                obtain ⟨q0, q1, q2, q3⟩ := (HK.out.turned0 HA.out.turned).at HX.out
                have hpick := pickX59 HA.out.idx x (by omega)
                unfold Key.val at hpick
                rw [← HPS.out.1] at hpick
                have HPICK := Lib.hid hpick
                clear hpick
                go_wp2_with (first
                  | (go_at_call 59; (with_reducible refine (HPICK.out).mono ?_); rintro e w7 ⟨r7, rfl, hr7, hn7, T7⟩; obtain ⟨a7, c7, rfl⟩ := hr7.shape; have hm7 := hr7.max; have HR7 := Lib.hid hr7; clear hr7))
                try clear hcell
                try clear q0 q1 q2 q3
                go_loopg [13, 14] ps.length (fun g fd i wr => ∃ k : Nat, Hid (k + g = ps.length) ∧ k ≤ ps.length ∧ fd = .bool (decide ((j : Int) ∈ ps.take k)) ∧ i = .int .i64 k ∧ Turned (fun _ => False) w7 wr)
                case atStart => exact ⟨0, Nat.zero_add _, Nat.zero_le _, by simp, rfl, Turned.refl _ _⟩
                case round =>
                  obtain ⟨k, HG2, hk, hfd, rfl, Tr⟩ := hrel
                  obtain ⟨wz, rfl⟩ : ∃ wz : World, wz = wr := ⟨_, rfl⟩
                  by_cases hkl : k < ps.length
                  · have hx : ps[k]? = some ps[k] := List.getElem?_eq_getElem hkl
                    obtain ⟨q, hxe⟩ : ∃ q, q = ps[k] := ⟨_, rfl⟩
                    rw [← hxe] at hx
                    clear hxe
                    obtain ⟨g7, cc7, he⟩ := HR7.out.shape_pos (by omega)
                    injection he with he1 _ he2
                    subst he1 he2
                    have hcq := (HR7.out.turned0 Tr).cells rfl k _ (by rw [List.getElem?_map, hx]; rfl)
                    have hts : ps.take (k + 1) = ps.take k ++ [q] := take_snoc' _ _ _ hx
                    have HTS := Lib.hid hts
                    clear hts hx
                    cases hb : decide ((j : Int) ∈ ps.take k) with
                    | true =>
                      rw [hb] at hfd
                      subst hfd
                      have HB := Lib.hid hb
                      clear hb
                      go_wp2_with fail
                      go_roundg (gk - 1)
                      case measure => have := HG2.out; omega
                      case rel =>
                        refine ⟨k + 1, show _ = _ by have := HG2.out; omega, by omega, ?_, by go_num, Tr⟩
                        rw [HTS.out]
                        have := of_decide_eq_true HB.out
                        simp [this]
                    | false =>
                      rw [hb] at hfd
                      subst hfd
                      have HB := Lib.hid hb
                      clear hb
                      by_cases hqj : q = (j : Int)
                      · subst hqj
                        go_wp2_with fail
                        go_roundg (gk - 1)
                        case measure => have := HG2.out; omega
                        case rel =>
                          refine ⟨k + 1, show _ = _ by have := HG2.out; omega, by omega, ?_, by go_num, Tr⟩
                          rw [HTS.out]
                          simp
                      · have hne : (q == (j : Int)) = false := by simpa using hqj
                        have hnd : decide (q = (j : Int)) = false := by simpa using hqj
                        have HQ := Lib.hid hqj
                        clear hqj
                        go_wp2_with fail
                        go_roundg (gk - 1)
                        case measure => have := HG2.out; omega
                        case rel =>
                          refine ⟨k + 1, show _ = _ by have := HG2.out; omega, by omega, ?_, by go_num, Tr⟩
                          rw [HTS.out]
                          have h1 := of_decide_eq_false HB.out
                          have h2 := HQ.out
                          have h3 : ¬ (j : Int) = q := fun e => h2 e.symm
                          simp [h1, h3]
                  · obtain rfl : k = ps.length := by omega
                    rw [List.take_length, HPS.out.2, hdm] at hfd
                    simp only [Bool.not_true, Bool.not_false] at hfd
                    subst hfd
                    have hcz := (HA.out.turned0 (T7.trans Tr)).bools.cell hjl
                    rw [hdm] at hcz
                    simp only [Bool.not_true, Bool.not_false] at hcz
                    go_wp2_with fail
                    go_roundg (gp - 1)
                    case measure => have := HG.out; omega
                    case rel =>
                      exact ⟨j + 1, show _ = _ by have := HG.out; omega, by omega, by go_num, HN.out.1.turned0 (T7.trans Tr), HN.out.2.1, HN.out.2.2.trans (T7.trans Tr)⟩
              | false =>
                rw [hdm] at hcell
                obtain ⟨i0, hi0, hz0, hz1, hz2⟩ := info_parts infoN
                go_wp2_with (first
                  | (at_builtin; go_loud (refine append_some _ rfl _ _ 61 rfl 3 i0 (.int .i64 0) 1 8 Try.underlying61 hi0 hz0 hz1 hz2 rfl (by decide) _ _ _ rfl (HR.out.1.alloc _) ⟨wp.heap.size, 0, none⟩ 1 1 [.int .i64 j] rfl rfl (cell_one_new _ _ _) (by simp [Value.oneCell']) (by omega) (by unfold maxLen; omega) (by omega) ?_; intro g6 cap6 w6 hown6 T6 hloc6; have HN := Lib.hid (all_close hdm HR.out hown6 T6 hloc6); clear hown6 T6 hloc6; have HA := Lib.hid (HV.out.turned0 HN.out.2.2); obtain ⟨q0, q1, q2, q3⟩ := (HK.out.turned0 HA.out.turned).at HX.out; have hpick := pickX59 HA.out.idx x (by omega); unfold Key.val at hpick; rw [← HPS.out.1] at hpick; have HPICK := Lib.hid hpick; clear hpick))
                  | (go_at_call 59; (with_reducible refine (HPICK.out).mono ?_); rintro e w7 ⟨r7, rfl, hr7, hn7, T7⟩; obtain ⟨a7, c7, rfl⟩ := hr7.shape; have hm7 := hr7.max; have HR7 := Lib.hid hr7; clear hr7))
                try clear hcell
                try clear q0 q1 q2 q3
                go_loopg [13, 14] ps.length (fun g fd i wr => ∃ k : Nat, Hid (k + g = ps.length) ∧ k ≤ ps.length ∧ fd = .bool (decide ((j : Int) ∈ ps.take k)) ∧ i = .int .i64 k ∧ Turned (fun _ => False) w7 wr)
                case atStart => exact ⟨0, Nat.zero_add _, Nat.zero_le _, by simp, rfl, Turned.refl _ _⟩
                case round =>
                  obtain ⟨k, HG2, hk, hfd, rfl, Tr⟩ := hrel
                  obtain ⟨wz, rfl⟩ : ∃ wz : World, wz = wr := ⟨_, rfl⟩
                  by_cases hkl : k < ps.length
                  · have hx : ps[k]? = some ps[k] := List.getElem?_eq_getElem hkl
                    obtain ⟨q, hxe⟩ : ∃ q, q = ps[k] := ⟨_, rfl⟩
                    rw [← hxe] at hx
                    clear hxe
                    obtain ⟨g7, cc7, he⟩ := HR7.out.shape_pos (by omega)
                    injection he with he1 _ he2
                    subst he1 he2
                    have hcq := (HR7.out.turned0 Tr).cells rfl k _ (by rw [List.getElem?_map, hx]; rfl)
                    have hts : ps.take (k + 1) = ps.take k ++ [q] := take_snoc' _ _ _ hx
                    have HTS := Lib.hid hts
                    clear hts hx
                    cases hb : decide ((j : Int) ∈ ps.take k) with
                    | true =>
                      rw [hb] at hfd
                      subst hfd
                      have HB := Lib.hid hb
                      clear hb
                      go_wp2_with fail
                      go_roundg (gk - 1)
                      case measure => have := HG2.out; omega
                      case rel =>
                        refine ⟨k + 1, show _ = _ by have := HG2.out; omega, by omega, ?_, by go_num, Tr⟩
                        rw [HTS.out]
                        have := of_decide_eq_true HB.out
                        simp [this]
                    | false =>
                      rw [hb] at hfd
                      subst hfd
                      have HB := Lib.hid hb
                      clear hb
                      by_cases hqj : q = (j : Int)
                      · subst hqj
                        go_wp2_with fail
                        go_roundg (gk - 1)
                        case measure => have := HG2.out; omega
                        case rel =>
                          refine ⟨k + 1, show _ = _ by have := HG2.out; omega, by omega, ?_, by go_num, Tr⟩
                          rw [HTS.out]
                          simp
                      · have hne : (q == (j : Int)) = false := by simpa using hqj
                        have hnd : decide (q = (j : Int)) = false := by simpa using hqj
                        have HQ := Lib.hid hqj
                        clear hqj
                        go_wp2_with fail
                        go_roundg (gk - 1)
                        case measure => have := HG2.out; omega
                        case rel =>
                          refine ⟨k + 1, show _ = _ by have := HG2.out; omega, by omega, ?_, by go_num, Tr⟩
                          rw [HTS.out]
                          have h1 := of_decide_eq_false HB.out
                          have h2 := HQ.out
                          have h3 : ¬ (j : Int) = q := fun e => h2 e.symm
                          simp [h1, h3]
                  · obtain rfl : k = ps.length := by omega
                    rw [List.take_length, HPS.out.2, hdm] at hfd
                    simp only [Bool.not_true, Bool.not_false] at hfd
                    subst hfd
                    have hcz := (HA.out.turned0 (T7.trans Tr)).bools.cell hjl
                    rw [hdm] at hcz
                    simp only [Bool.not_true, Bool.not_false] at hcz
                    go_wp2_with fail
                    go_roundg (gp - 1)
                    case measure => have := HG.out; omega
                    case rel =>
                      exact ⟨j + 1, show _ = _ by have := HG.out; omega, by omega, by go_num, HN.out.1.turned0 (T7.trans Tr), HN.out.2.1, HN.out.2.2.trans (T7.trans Tr)⟩
            · obtain rfl : j = ks.length := by omega
              have HA := Lib.hid (HV.out.turned0 HR.out.2.2)
              have hpz : Calls Try.prog 59 #[.pointer (some ⟨xb, 0, none⟩), .agg #[.int .i64 0, .int .i64 0, .string ByteArray.empty, .int .i64 0]] wp _ := pickX59 HA.out.idx Key.zero (by omega)
              rw [pickB_zero] at hpz
              have HPZ := Lib.hid hpz
              clear hpz
              go_wp2_with (first
                | (go_at_call 59; go_loud (refine (HPZ.out).mono ?_; rintro e w7 ⟨r7, rfl, hr7, hn7, T7⟩; obtain ⟨a7, c7, rfl⟩ := hr7.shape; have HR7 := Lib.hid hr7; clear hr7))
                | (go_at_call 58; refine (ints58 HR7.out (HR.out.1.turned0 T7)).mono ?_; rintro e w8 ⟨rfl, T8⟩))
              go_ret
              exact ⟨by simp, ((HA.out.turned).trans T7).trans T8⟩
end Go.Proofs.Ytoihjobdfjajfaa

/- How a term, a slice of terms that came in is opened. -/
namespace Go.Proofs.Ytoihjobdfjajfaa
open Go.Joins Go.Deep Go.ChangeShapes Go.WideShapes Go.ChangeAt Go.RowKit
set_option linter.unusedVariables false
set_option linter.unusedSimpArgs false

theorem cellsOf27 : Try.prog.cellsOf 27 = 4 := by kernel_rfl
theorem cellsOf22 : Try.prog.cellsOf 22 = 1 := by kernel_rfl
theorem cellsOf3 : Try.prog.cellsOf 3 = 1 := by kernel_rfl
theorem cellsOf2 : Try.prog.cellsOf 2 = 1 := by kernel_rfl
theorem cellsOf9 : Try.prog.cellsOf 9 = 1 := by kernel_rfl
theorem I64_of {n : Int} (h : (Lit.int .i64 n).wf = true) : I64 n := by
  unfold I64
  simp [Lit.wf] at h
  have e1 : IntKind.i64.min = -9223372036854775808 := by decide
  have e2 : IntKind.i64.max = 9223372036854775807 := by decide
  omega

section
variable {H : Type} {enc : TypeId × Value → H} {W : World} {base : Nat} {sp : Nat → Bool} {held : Bool}
theorem list4 {α : Type} {l : List α} (h : l.length = 4) : ∃ a b c d, l = [a, b, c, d] := by
  match l, h with
  | [a, b, c, d], _ => exact ⟨a, b, c, d, rfl⟩
set_option maxRecDepth 100000 in
theorem terms_of (fuel : Nat) : (∀ cs (x : DataW H × List MemPlace), DataW.trod enc Try.prog W base sp held fuel 27 cs = some x → ∃ t : LT, cs = t.cells ∧ t.In (fun _ => True) W) ∧
    (∀ cs (x : DataW H × List MemPlace), DataW.trod enc Try.prog W base sp held fuel 22 cs = some x → ∃ a cap, ∃ l : List LT, cs = [.slice a l.length cap] ∧ LT.Sl (fun _ => True) W a cap l) := by
  induction fuel with
  | zero => exact ⟨fun cs x h => by simp [DataW.trod] at h, fun cs x h => by simp [DataW.trod] at h⟩
  | succ fuel ih =>
    refine ⟨fun cs x h => ?_, fun cs x h => ?_⟩
    · obtain ⟨xs, n, hn, hx, hcs, hlen, hf⟩ := DataW.trod_struct Try.underlying27 h
      have hn : fuel = n := by omega
      subst hn
      rw [cellsOf27] at hcs
      obtain ⟨u0, u1, u2, u3, rfl⟩ := list4 hcs
      obtain ⟨y0, y1, y2, y3, rfl⟩ := list4 hlen
      · · have f0 : DataW.trod enc Try.prog W base sp held fuel 3 (([u0, u1, u2, u3].drop 0).take (Try.prog.cellsOf 3)) = some y0 := hf 0 _ rfl
          have f1 : DataW.trod enc Try.prog W base sp held fuel 2 (([u0, u1, u2, u3].drop 1).take (Try.prog.cellsOf 2)) = some y1 := hf 1 _ rfl
          have f2 : DataW.trod enc Try.prog W base sp held fuel 9 (([u0, u1, u2, u3].drop 2).take (Try.prog.cellsOf 9)) = some y2 := hf 2 _ rfl
          have f3 : DataW.trod enc Try.prog W base sp held fuel 22 (([u0, u1, u2, u3].drop 3).take (Try.prog.cellsOf 22)) = some y3 := hf 3 _ rfl
          simp only [cellsOf3, cellsOf2, cellsOf9, cellsOf22] at f0 f1 f2 f3
          simp at f0 f1 f2 f3
          obtain ⟨k, e0, _, wk⟩ := DataW.trod_int Try.underlying3 f0
          obtain ⟨m, e1, _, wm⟩ := DataW.trod_int Try.underlying2 f1
          obtain ⟨s, e2, _, ws⟩ := DataW.trod_string Try.underlying9 f2
          obtain ⟨a, cap, l, e3, hl⟩ := ih.2 _ _ f3
          simp at e0 e1 e2 e3
          subst e0 e1 e2 e3
          exact ⟨.mk k m s (a, cap) l, rfl, hl.in_ (I64_of wk) (I64_of wm) ws⟩
    · rcases DataW.trod_slice Try.underlying22 h with ⟨hcs, _⟩ | ⟨ad, len, cap, elems, rest, n, hn, hcs, _, _, hl, hm, hlen, hel, _⟩
      · exact ⟨none, 0, [], hcs, ⟨fun _ => ⟨rfl, rfl⟩, fun h => by simp at h, trivial, Nat.le_refl _, by unfold maxLen; omega⟩⟩
      · have hn : fuel = n := by omega
        subst hn
        rw [cellsOf27] at hel
        have hp : ∀ i, ∃ t : LT, i < len → t.In (fun _ => True) W ∧ ∀ j, j < 4 → W.cell? (ad.add (i * 4 + j)) = t.cells[j]? := by
          intro i
          by_cases hi : i < len
          · have he := hel i hi
            rw [List.getElem?_eq_getElem (by omega)] at he
            obtain ⟨cs', hc, ht⟩ := Option.bind_eq_some_iff.1 he
            obtain ⟨t, rfl, hin⟩ := ih.1 _ _ ht
            obtain ⟨_, _, hat⟩ := World.cells?_some hc
            refine ⟨t, fun _ => ⟨hin, fun j hj => ?_⟩⟩
            rw [← hat j hj]
            congr 1
            exact (add_add ..).symm
          · exact ⟨.mk 0 0 ByteArray.empty (none, 0) [], fun h => absurd h hi⟩
        obtain ⟨f, hff⟩ := Classical.axiomOfChoice hp
        refine ⟨some ad, cap, (List.range len).map f, by simpa using hcs, ⟨(fun e => by cases e), fun hpos => ?_, (LT.ins_iff _).2 fun x hx => ?_, by simpa using hl, hm⟩⟩
        · simp at hpos
          obtain ⟨b, o, spot⟩ := ad
          have hc := (hff 0 (by omega)).2 0 (by omega)
          have hspot : spot = none := by
            rw [LT.cells_eq] at hc
            simpa [Addr.add] using World.cell?_spot hc
          subst hspot
          refine ⟨b, o, rfl, trivial, fun j u hu => ?_⟩
          have hlt := (List.getElem?_eq_some_iff.1 hu).1
          rw [LT.flat_length, List.length_map, List.length_range] at hlt
          have hi : j / 4 < len := by omega
          have hx : ((List.range len).map f)[j / 4]? = some (f (j / 4)) := by rw [List.getElem?_map, List.getElem?_range hi]; rfl
          have h4 := LT.flat_at hx (j % 4) (by omega)
          rw [show j / 4 * 4 + j % 4 = j by omega, hu] at h4
          have hc := (hff (j / 4) hi).2 (j % 4) (by omega)
          rw [show j / 4 * 4 + j % 4 = j by omega, Addr.add_lit] at hc
          rw [hc, h4]
        · obtain ⟨i, hi, rfl⟩ := List.mem_map.1 hx
          exact (hff i (by simpa using hi)).1
theorem slT_of {fuel : Nat} {a : Option Addr} {len cap : Nat} {x : DataW H × List MemPlace} (hf : DataW.trod enc Try.prog W base sp held fuel 22 (Value.slice a len cap).cells.toList = some x) : ∃ l : List LT, l.length = len ∧ LT.Sl (fun _ => True) W a cap l := by
  obtain ⟨a', cap', l, hcs, hl⟩ := (terms_of fuel).2 _ _ hf
  simp [Value.cells] at hcs
  obtain ⟨rfl, rfl, rfl⟩ := hcs
  exact ⟨l, rfl, hl⟩
set_option maxRecDepth 100000 in
theorem tmT_of {fuel : Nat} {r : Reach} {b0 : Nat} {v : Value} {x : DataW H × List MemPlace} (hv : Value.okWide Try.prog W r b0 27 v) (hf : DataW.trod enc Try.prog W base sp held fuel 27 v.cells.toList = some x) : ∃ t : LT, v = t.val ∧ t.In (fun _ => True) W := by
  obtain ⟨cs, rfl, hsz⟩ := okWide_struct Try.underlying27 hv
  obtain ⟨t, hcs, hin⟩ := (terms_of fuel).1 _ _ hf
  refine ⟨t, ?_, hin⟩
  cases t with | mk k n s e bs =>
  simp only [Value.cells] at hcs
  show Value.agg cs = Value.agg _
  congr 1
  exact Array.toList_inj.1 hcs
end
end Go.Proofs.Ytoihjobdfjajfaa

/- How a slice of keys, of ints that came in is opened. -/
namespace Go.Proofs.Ytoihjobdfjajfaa
open Go.Joins Go.Deep Go.ChangeShapes Go.WideShapes Go.ChangeAt Go.RowKit
set_option linter.unusedVariables false
set_option linter.unusedSimpArgs false
theorem cellsOf35 : Try.prog.cellsOf 35 = 4 := by kernel_rfl
section
variable {H : Type} {enc : TypeId × Value → H} {W : World} {base : Nat} {sp : Nat → Bool} {held : Bool}
set_option maxRecDepth 100000 in
theorem isT_of {fuel : Nat} {a : Option Addr} {len cap : Nat} {x : DataW H × List MemPlace} (hf : DataW.trod enc Try.prog W base sp held fuel 61 (Value.slice a len cap).cells.toList = some x) : ∃ l : List Int, l.length = len ∧ ISl W a cap l := by
  cases fuel with
  | zero => simp [DataW.trod] at hf
  | succ fuel =>
  rcases DataW.trod_slice Try.underlying61 hf with ⟨hcs, _⟩ | ⟨ad, len', cap', elems, rest, n, hn, hcs, _, _, hl, hm, hlen, hel, _⟩
  · simp [Value.cells] at hcs
    obtain ⟨rfl, rfl, rfl⟩ := hcs
    exact ⟨[], rfl, ⟨fun _ => ⟨rfl, rfl⟩, fun h => by simp at h, Nat.le_refl _, by omega, fun x hx => by cases hx⟩⟩
  · simp [Value.cells] at hcs
    obtain ⟨rfl, rfl, rfl⟩ := hcs
    rw [cellsOf3] at hel
    have hp : ∀ i, ∃ k : Int, i < len → I64 k ∧ W.cell? (ad.add i) = some (.int .i64 k) := by
      intro i
      by_cases hi : i < len
      · have he := hel i hi
        rw [List.getElem?_eq_getElem (by omega)] at he
        obtain ⟨cs', hc, ht⟩ := Option.bind_eq_some_iff.1 he
        obtain ⟨k, rfl, _, wk⟩ := DataW.trod_int Try.underlying3 ht
        obtain ⟨_, _, hat⟩ := World.cells?_some hc
        have h0 := hat 0 (by omega)
        simp at h0
        refine ⟨k, fun _ => ⟨I64_of wk, ?_⟩⟩
        rw [← h0]
        congr 1
      · exact ⟨0, fun h => absurd h hi⟩
    obtain ⟨f, hff⟩ := Classical.axiomOfChoice hp
    refine ⟨(List.range len).map f, by simp, ⟨(fun e => by cases e), fun hpos => ?_, by simpa using hl, by unfold maxLen at hm; omega, fun x hx => ?_⟩⟩
    · simp at hpos
      obtain ⟨b, o, spot⟩ := ad
      have hc := (hff 0 hpos).2
      have hspot : spot = none := by simpa [Addr.add] using World.cell?_spot hc
      subst hspot
      refine ⟨b, o, rfl, fun j u hu => ?_⟩
      have hlt := (List.getElem?_eq_some_iff.1 hu).1
      rw [List.length_map, List.length_range] at hlt
      have h4 : ((List.range len).map f)[j]? = some (f j) := by rw [List.getElem?_map, List.getElem?_range hlt]; rfl
      rw [hu] at h4
      have hc := (hff j hlt).2
      rw [Addr.add_lit] at hc
      rw [hc, Option.some.inj h4]
    · obtain ⟨i, hi, rfl⟩ := List.mem_map.1 hx
      exact (hff i (by simpa using hi)).1
set_option maxRecDepth 100000 in
theorem key_of {fuel : Nat} {cs : List Value} {x : DataW H × List MemPlace} (h : DataW.trod enc Try.prog W base sp held fuel 35 cs = some x) : ∃ k : Key, cs = k.cells := by
  cases fuel with
  | zero => simp [DataW.trod] at h
  | succ fuel =>
  obtain ⟨xs, n, hn, hx, hcs, hlen, hf⟩ := DataW.trod_struct Try.underlying35 h
  have hn : fuel = n := by omega
  subst hn
  rw [cellsOf35] at hcs
  obtain ⟨u0, u1, u2, u3, rfl⟩ := list4 hcs
  obtain ⟨y0, y1, y2, y3, rfl⟩ := list4 hlen
  have f0 : DataW.trod enc Try.prog W base sp held fuel 3 (([u0, u1, u2, u3].drop 0).take (Try.prog.cellsOf 3)) = some y0 := hf 0 _ rfl
  have f1 : DataW.trod enc Try.prog W base sp held fuel 2 (([u0, u1, u2, u3].drop 1).take (Try.prog.cellsOf 2)) = some y1 := hf 1 _ rfl
  have f2 : DataW.trod enc Try.prog W base sp held fuel 9 (([u0, u1, u2, u3].drop 2).take (Try.prog.cellsOf 9)) = some y2 := hf 2 _ rfl
  have f3 : DataW.trod enc Try.prog W base sp held fuel 3 (([u0, u1, u2, u3].drop 3).take (Try.prog.cellsOf 3)) = some y3 := hf 3 _ rfl
  simp only [cellsOf3, cellsOf2, cellsOf9] at f0 f1 f2 f3
  simp at f0 f1 f2 f3
  obtain ⟨k, e0, _, wk⟩ := DataW.trod_int Try.underlying3 f0
  obtain ⟨m, e1, _, wm⟩ := DataW.trod_int Try.underlying2 f1
  obtain ⟨s, e2, _, ws⟩ := DataW.trod_string Try.underlying9 f2
  obtain ⟨r, e3, _, wr⟩ := DataW.trod_int Try.underlying3 f3
  simp at e0 e1 e2 e3
  subst e0 e1 e2 e3
  exact ⟨⟨k, m, s, r⟩, rfl⟩
set_option maxRecDepth 100000 in
theorem klT_of {fuel : Nat} {a : Option Addr} {len cap : Nat} {x : DataW H × List MemPlace} (hf : DataW.trod enc Try.prog W base sp held fuel 55 (Value.slice a len cap).cells.toList = some x) : ∃ l : List Key, l.length = len ∧ KSl W a cap l := by
  cases fuel with
  | zero => simp [DataW.trod] at hf
  | succ fuel =>
  rcases DataW.trod_slice Try.underlying55 hf with ⟨hcs, _⟩ | ⟨ad, len', cap', elems, rest, n, hn, hcs, _, _, hl, hm, hlen, hel, _⟩
  · simp [Value.cells] at hcs
    obtain ⟨rfl, rfl, rfl⟩ := hcs
    exact ⟨[], rfl, ⟨fun _ => ⟨rfl, rfl⟩, fun h => by simp at h, Nat.le_refl _, by omega⟩⟩
  · simp [Value.cells] at hcs
    obtain ⟨rfl, rfl, rfl⟩ := hcs
    rw [cellsOf35] at hel
    have hp : ∀ i, ∃ k : Key, i < len → ∀ j, j < 4 → W.cell? (ad.add (i * 4 + j)) = k.cells[j]? := by
      intro i
      by_cases hi : i < len
      · have he := hel i hi
        rw [List.getElem?_eq_getElem (by omega)] at he
        obtain ⟨cs', hc, ht⟩ := Option.bind_eq_some_iff.1 he
        obtain ⟨k, rfl⟩ := key_of ht
        obtain ⟨_, _, hat⟩ := World.cells?_some hc
        refine ⟨k, fun _ j hj => ?_⟩
        rw [← hat j hj]
        congr 1
        exact (add_add ..).symm
      · exact ⟨Key.zero, fun h => absurd h hi⟩
    obtain ⟨f, hff⟩ := Classical.axiomOfChoice hp
    refine ⟨(List.range len).map f, by simp, ⟨(fun e => by cases e), fun hpos => ?_, by simpa using hl, by unfold maxLen at hm; omega⟩⟩
    simp at hpos
    obtain ⟨b, o, spot⟩ := ad
    have hc := hff 0 (by omega) 0 (by omega)
    have hspot : spot = none := by
      have : W.cell? ((⟨b, o, spot⟩ : Addr).add (0 * 4 + 0)) = some (.int .i64 (f 0).kind) := hc
      simpa [Addr.add] using World.cell?_spot this
    subst hspot
    refine ⟨b, o, rfl, fun j u hu => ?_⟩
    have hf4 : ∀ x : Key, x.cells.length = 4 := fun _ => rfl
    have hlt := (List.getElem?_eq_some_iff.1 hu).1
    rw [flat4_length Key.cells hf4, List.length_map, List.length_range] at hlt
    have hi : j / 4 < len := by omega
    have hx : ((List.range len).map f)[j / 4]? = some (f (j / 4)) := by rw [List.getElem?_map, List.getElem?_range hi]; rfl
    have h4 := flat4_at Key.cells hf4 hx (j % 4) (by omega)
    rw [show j / 4 * 4 + j % 4 = j by omega, hu] at h4
    have hc := hff (j / 4) hi (j % 4) (by omega)
    rw [show j / 4 * 4 + j % 4 = j by omega, Addr.add_lit] at hc
    rw [hc, h4]
end
end Go.Proofs.Ytoihjobdfjajfaa

/- IndexPlays: the document's key and May; rows of bools; a list of acts. -/
namespace Go.Proofs.Ytoihjobdfjajfaa
set_option linter.unusedVariables false
set_option linter.unusedSimpArgs false
open Go.RowKit Go.Maps
attribute [local go_sem ↓] Go.wp_at_zero Go.wp_at_succ

theorem fields63 : Try.prog.underlying 63 = some (.struct (Try.prog.fieldsOf 63)) := by unfold Program.fieldsOf; rw [Try.underlying63]
theorem stood63 : Try.prog.stoodInHeld 63 = false := by kernel_rfl
theorem key_eql63 (a b : Key) (W : World) : (binOp .eql 63 (.agg #[.int .i64 a.kind, .int .i64 a.n, .string a.name, .int .i64 a.arity]) (.agg #[.int .i64 b.kind, .int .i64 b.n, .string b.name, .int .i64 b.arity])).run Try.prog W = .ok (.bool (decide (a = b))) W := by
  rw [run_eql_struct, show (10000 : Nat) = 9999 + 1 from rfl, run_equalIn_agg _ _ _ _ _ fields63 stood63]
  unfold Program.fieldsOf
  rw [Try.underlying63]
  have hb := bytes_eq a.name b.name
  simp [go_sem, Try.underlying3, Try.underlying2, Try.underlying9, key_ext, hb]
  by_cases h1 : a.kind = b.kind <;> by_cases h2 : a.n = b.n <;> by_cases h3 : a.name = b.name <;> by_cases h4 : a.arity = b.arity <;> simp [h1, h2, h3, h4]

set_option maxRecDepth 100000 in
set_option maxHeartbeats 800000 in
theorem mayr56 (a b : Key) (w : World) : Calls Try.prog 56 #[a.val, b.val] w fun e w' => e = .returned (.bool (mayB a b)) ∧ Turned (fun _ => False) w w' := by
  have hq := key_eql63 a b
  have HQ := Lib.hid hq
  have T := ((Turned.refl (fun _ => False) w).alloc (.cells #[.int .i64 a.kind, .int .i64 a.n, .string a.name, .int .i64 a.arity] 63)).alloc (.cells #[.int .i64 b.kind, .int .i64 b.n, .string b.name, .int .i64 b.arity] 63)
  have HT := Lib.hid T
  clear hq T
  unfold Key.val
  by_cases h0 : a.kind = 0
  · have k0 : (a.kind == 0) = true := by simp [h0]
    have HR : Hid (mayB a b = true) := by show _ = _; unfold mayB; simp [h0]
    clear h0
    go_enter Try.func56, Try.ntmps56
    go_wp2_with fail
    go_ret
    exact ⟨ret_bool HR.out.symm, HT.out⟩
  · have k0 : (a.kind == 0) = false := by simp [h0]
    by_cases h1 : b.kind = 0
    · have k1 : (b.kind == 0) = true := by simp [h1]
      have HR : Hid (mayB a b = true) := by show _ = _; unfold mayB; simp [h1]
      clear h0 h1
      go_enter Try.func56, Try.ntmps56
      go_wp2_with fail
      go_ret
      exact ⟨ret_bool HR.out.symm, HT.out⟩
    · have k1 : (b.kind == 0) = false := by simp [h1]
      have HR : Hid (mayB a b = decide (a = b)) := by show _ = _; unfold mayB; simp [h0, h1]
      clear h0 h1
      have hq := HQ.out
      go_enter Try.func56, Try.ntmps56
      go_wp2_with fail
      go_ret
      exact ⟨ret_bool HR.out.symm, HT.out⟩

set_option maxRecDepth 100000 in
set_option maxHeartbeats 800000 in
theorem key57 (k : Key) (w : World) : Calls Try.prog 57 #[k.val] w fun e w' => e = .returned k.val ∧ Turned (fun _ => False) w w' := by
  have h2 := heap_alloc2_new w (.cells #[.int .i64 k.kind, .int .i64 k.n, .string k.name, .int .i64 k.arity] 35) (.cells #[.int .i64 k.kind, .int .i64 k.n, .string k.name, .int .i64 k.arity] 63)
  have H2 := Lib.hid h2
  clear h2
  unfold Key.val
  go_enter Try.func57, Try.ntmps57
  go_wp2_with fail
  refine bodyPost_ret (v := .agg #[.int .i64 k.kind, .int .i64 k.n, .string k.name, .int .i64 k.arity]) (results_cell_row Try.results57 _ _ (w.heap.size + 1) 63 _ (0, 0) _ rfl H2.out Try.underlying63 rfl (by kernel_rfl)) rfl ⟨rfl, ((Turned.refl _ w).alloc _).alloc _⟩

/-- A list of acts. -/
structure Act2 where
  op : Int
  i : Int
  k : Key
def Act2.cells (a : Act2) : List Value := [.int .i64 a.op, .int .i64 a.i, .int .i64 a.k.kind, .int .i64 a.k.n, .string a.k.name, .int .i64 a.k.arity]
structure ASl (w : World) (a : Option Addr) (c : Nat) (l : List Act2) : Prop where
  none_ : a = none → l.length = 0 ∧ c = 0
  lies : 0 < l.length → ∃ b o, a = some ⟨b, o, none⟩ ∧ ∀ (i : Nat) x, l[i]? = some x → ∀ (j : Nat) u, x.cells[j]? = some u → w.cell? ⟨b, o + (i * 6 + j), none⟩ = some u
  cap : l.length ≤ c
  max : c ≤ 9223372036854775807
  wf : ∀ x ∈ l, I64 x.i
theorem ASl.turned0 {w w' : World} {a : Option Addr} {c : Nat} {l : List Act2} (h : ASl w a c l) (ht : Turned (fun _ => False) w w') : ASl w' a c l := by
  refine ⟨h.none_, fun hp => ?_, h.cap, h.max, h.wf⟩
  obtain ⟨b, o, he, hc⟩ := h.lies hp
  exact ⟨b, o, he, fun i x hx j u hu => ht.cell (hc i x hx j u hu) (fun f => f)⟩
theorem ASl.at {w : World} {b o c : Nat} {l : List Act2} (h : ASl w (some ⟨b, o, none⟩) c l) {i : Nat} {x : Act2} (hi : l[i]? = some x) :
    w.cell? ⟨b, o + i * 6, none⟩ = some (.int .i64 x.op) ∧ w.cell? ⟨b, o + i * 6 + 1, none⟩ = some (.int .i64 x.i) ∧ w.cell? ⟨b, o + i * 6 + 2, none⟩ = some (.int .i64 x.k.kind) ∧ w.cell? ⟨b, o + i * 6 + 3, none⟩ = some (.int .i64 x.k.n) ∧ w.cell? ⟨b, o + i * 6 + 4, none⟩ = some (.string x.k.name) ∧ w.cell? ⟨b, o + i * 6 + 5, none⟩ = some (.int .i64 x.k.arity) := by
  obtain ⟨b', o', e, hc⟩ := h.lies (by have := (List.getElem?_eq_some_iff.1 hi).1; omega)
  injection e with e
  injection e with e1 e2
  subst e1 e2
  have hh := hc i x hi
  refine ⟨hh 0 _ rfl, ?_, ?_, ?_, ?_, ?_⟩
  all_goals rw [Nat.add_assoc]
  · exact hh 1 _ rfl
  · exact hh 2 _ rfl
  · exact hh 3 _ rfl
  · exact hh 4 _ rfl
  · exact hh 5 _ rfl

/-- A row of one-cell elements, one of them stored anew. -/
theorem Row.set1 {w : World} {e : TypeId} {v : Value} {n g cap : Nat} {xs : List Value} (h : Row w e 1 v n xs) (hv : v = .slice (some ⟨g, 0, none⟩) n cap) {j : Nat} (hj : j < n) (u : Value) : Row (w.setCell ⟨g, j, none⟩ u) e 1 v n (xs.set j u) := by
  refine ⟨by rw [List.length_set]; exact h.1, ?_⟩
  rcases h.2 with ⟨rfl, _⟩ | ⟨g', cap', cur, rfl, hgg, h1, h2, h3, htake⟩
  · cases hv
  · injection hv with hv _ hc; injection hv with hv; injection hv with hv; subst hv hc
    have hs := heap_setCell_same w g' j cur e u hgg
    refine .inr ⟨g', cap', _, rfl, hs, h1, h2, by simpa using h3, ?_⟩
    rw [Array.toList_setIfInBounds, List.take_set, htake]

/-- Whether each of n is still there. -/
def ths (n : Nat) (gone : List Int) : List Value := (List.range n).map fun i : Nat => Value.bool (!decide ((i : Int) ∈ gone))
theorem ths_length (n : Nat) (gone : List Int) : (ths n gone).length = n := by simp [ths]
theorem ths_at {n : Nat} {gone : List Int} {i : Nat} (h : i < n) : (ths n gone)[i]? = some (.bool (!decide ((i : Int) ∈ gone))) := by simp [ths, h]
theorem ths_snoc {n : Nat} {gone : List Int} (h : ∀ g ∈ gone, g < (n : Int)) : ths (n + 1) gone = ths n gone ++ [.bool true] := by
  unfold ths
  rw [List.range_succ, List.map_append]
  congr 1
  have : (n : Int) ∉ gone := fun hm => by have := h _ hm; omega
  simp [this]
theorem ths_drop {n : Nat} {gone : List Int} {m : Nat} (h : m < n) : ths n (gone ++ [(m : Int)]) = (ths n gone).set m (.bool false) := by
  apply List.ext_getElem?
  intro i
  rw [List.getElem?_set]
  by_cases hi : i < n
  · rw [ths_at hi]
    by_cases e : m = i
    · subst e; simp [ths_length, h]
    · rw [if_neg e, ths_at hi]
      have : ¬ (i : Int) = (m : Int) := by omega
      simp [this]
  · have h1 : (ths n (gone ++ [(m : Int)]))[i]? = none := List.getElem?_eq_none (by rw [ths_length]; omega)
    have h2 : (ths n gone)[i]? = none := List.getElem?_eq_none (by rw [ths_length]; omega)
    rw [h1, h2, if_neg (by omega)]
end Go.Proofs.Ytoihjobdfjajfaa

/- bind.Set. -/
namespace Go.Proofs.Ytoihjobdfjajfaa
set_option linter.unusedVariables false
set_option linter.unusedSimpArgs false
open Go.RowKit Go.Maps
theorem ownB_bare (m : Nat) (t : LT) : Tm.ownB m t.bare = Tm.ownB m t := by unfold Tm.ownB; rw [goodB_bare, Tm.vars_bare]
/-- What is left of the binds when a map was made and written. -/
theorem BI.noted {p : Nat → Prop} {bb sb m : Nat} {lv tv : Value} {l : TL} {w w' : World} {o : Obj} (h : BI p bb sb lv tv m l w) (T : Turned (· = w.heap.size) (w.alloc o) w') : BI p bb sb lv tv m l w' :=
  (h.turned0 ((Turned.refl _ w).alloc o)).turned T (fun k hk e => by
    subst e
    refine ⟨fun c => Nat.lt_irrefl _ (h.own_lt _ c), fun b hb c => ?_, fun c => Nat.lt_irrefl _ (h.sep _ c).1⟩
    have := (Array.getElem?_eq_some_iff.1 (h.terms b hb).1).1
    omega)
theorem noted0 {w w' : World} {o : Obj} (T : Turned (· = w.heap.size) (w.alloc o) w') : Turned (fun _ => False) w w' :=
  ((Turned.refl (fun _ => False) w).alloc o).step T (fun i hi e => by omega)
section
variable {p : Nat → Prop} {bb sb m : Nat} {lv tv : Value} {l : TL} {w w' : World} {t : LT} {n : Int}
/-- What stands behind Set. -/
def SetQ (p : Nat → Prop) (bb sb m : Nat) (lv tv : Value) (l : TL) (w : World) (n : Int) (t : LT) (w' : World) : Prop :=
  (∃ tv' l', BI p bb sb lv tv' m l' w' ∧ bt l' = (if Tm.setE m (bt l) n t.bare = 0 then (n, t.bare) :: bt l else bt l) ∧ (tv'.ownBlock = tv.ownBlock ∨ ∀ k, tv'.ownBlock = some k → w.heap.size ≤ k) ∧ ∀ b ∈ l', b ∈ l ∨ w.heap.size ≤ b.2.1) ∧ Turned (fun k => k = sb ∨ lv.ownBlock = some k ∨ tv.ownBlock = some k) w w'
theorem SetQ.same (h : BI p bb sb lv tv m l w) (hE : ¬ Tm.setE m (bt l) n t.bare = 0) (T : Turned (fun _ => False) w w') : SetQ p bb sb m lv tv l w n t w' :=
  ⟨⟨tv, l, h.turned0 T, by rw [if_neg hE], .inl rfl, fun b hb => .inl hb⟩, T.mono (fun _ _ f => f.elim)⟩
set_option maxHeartbeats 400000 in
/-- The variable's pointer is laid, the variable is pushed. -/
theorem push_at {g cl i : Nat} {v : Value} (hb : BI p bb sb (.slice (some ⟨g, 0, none⟩) m cl) tv m l w) (hn : l.length < 65536) (hi : i < m) :
    Calls Try.prog 146 #[.pointer (some ⟨sb, 0, none⟩), .slice (some ⟨w.heap.size, 0, none⟩) 1 1] ((w.setCell ⟨g, i, none⟩ v).alloc (.cells #[.int .i64 n] 2)) fun e w' => e = .returned (.bool true) ∧ ∃ tv', w'.heap[sb]? = some (.cells #[.int .i64 65536, tv'] 209 (0, 0)) ∧
      Row w' 2 1 tv' (l.length + 1) ((l.map fun b => Value.int .i64 b.1).reverse ++ [.int .i64 n]) ∧ Row w' 165 1 (.slice (some ⟨g, 0, none⟩) m cl) m ((ptrs m l).set i v) ∧ Turned (fun k => k = sb ∨ (Value.slice (some ⟨g, 0, none⟩) m cl).ownBlock = some k ∨ tv.ownBlock = some k) w w' ∧ (tv'.ownBlock = tv.ownBlock ∨ ∀ k, tv'.ownBlock = some k → w.heap.size + 1 ≤ k) := by
  obtain ⟨n1, n2, n3, n4, n5, n6⟩ := hb.ne
  have hgs : g ≠ sb := fun e => n3 (by rw [e]; rfl)
  have hsl := (Array.getElem?_eq_some_iff.1 hb.s).1
  have hgl := hb.row.lt g rfl
  have T1 : Turned (fun k => k = g) w (w.setCell ⟨g, i, none⟩ v) := (Turned.refl (fun k => k = g) w).setCell (p := ⟨g, i, none⟩) (.inr rfl) v
  have T2 := T1.alloc (.cells #[.int .i64 n] 2)
  have hs2 := (T2.block sb hsl (fun e => hgs e.symm)).trans hb.s
  have ht2 := hb.trail.turned T2 (fun k hk e => n6 g rfl (by rw [← e]; exact hk))
  have hr2 := (hb.row.setAt (off := i) (by omega) v).turned0 ((Turned.refl _ _).alloc (.cells #[.int .i64 n] 2))
  have h0 := heap_alloc_new (w.setCell ⟨g, i, none⟩ v) (.cells #[.int .i64 n] 2)
  have hz : (w.setCell ⟨g, i, none⟩ v).heap.size = w.heap.size := by simp
  rw [hz] at h0
  refine (push146 hs2 ht2 hn n5 h0).mono ?_
  rintro e w' ⟨rfl, tv', g1, g2, g3, g4⟩
  refine ⟨rfl, tv', g1, g2, hr2.turned g3 (fun k hk e => ?_), (T2.mono (fun k _ e => .inr (.inl (by rw [e]; rfl)))).trans (g3.mono (fun k _ e => e.elim .inl (fun e => .inr (.inr e)))), g4.elim .inl (fun q => .inr (fun k hk => ?_))⟩
  · simp [Value.ownBlock] at hk
    subst hk
    exact e.elim hgs (fun e => n6 g rfl e)
  · have := q k hk
    have h2 : ((w.setCell ⟨g, i, none⟩ v).alloc (.cells #[.int .i64 n] 2)).heap.size = w.heap.size + 1 := by simp
    omega
theorem SetQ.done {g cl : Nat} {tv' : Value} {w6 w9 : World} (h : BI p bb sb (.slice (some ⟨g, 0, none⟩) m cl) tv m l w) (ht : t.In p w) (h0 : 0 ≤ n) (h1 : n < (m : Int)) (hE : Tm.setE m (bt l) n t.bare = 0) (T6 : Turned (fun _ => False) w w6) (hD : BI p bb sb (.slice (some ⟨g, 0, none⟩) m cl) tv m l w6)
    (hc : w6.heap[w.heap.size]? = some (.cells #[.int .i64 t.kind, .int .i64 t.n, .string t.name, .slice t.at_.1 t.args.length t.at_.2] 27 (0, 0)))
    (g1 : w9.heap[sb]? = some (.cells #[.int .i64 65536, tv'] 209 (0, 0))) (g2 : Row w9 2 1 tv' (l.length + 1) ((l.map fun b => Value.int .i64 b.1).reverse ++ [.int .i64 n])) (g3 : Row w9 165 1 (.slice (some ⟨g, 0, none⟩) m cl) m ((ptrs m l).set n.toNat (.pointer (some ⟨w.heap.size, 0, none⟩))))
    (g4 : Turned (fun k => k = sb ∨ (Value.slice (some ⟨g, 0, none⟩) m cl).ownBlock = some k ∨ tv.ownBlock = some k) w6 w9) (g5 : tv'.ownBlock = tv.ownBlock ∨ ∀ k, tv'.ownBlock = some k → w6.heap.size + 1 ≤ k) : SetQ p bb sb m (.slice (some ⟨g, 0, none⟩) m cl) tv l w n t w9 := by
  have hn : ((n.toNat : Nat) : Int) = n := Int.toNat_of_nonneg h0
  have hcl := (Array.getElem?_eq_some_iff.1 hc).1
  refine ⟨⟨tv', ((n.toNat : Int), w.heap.size, t) :: l, ?_, ?_, ?_, fun b hb => (List.mem_cons.1 hb).elim (fun e => .inr (by rw [e]; exact Nat.le_refl _)) .inl⟩, (T6.mono (fun _ _ f => f.elim)).trans g4⟩
  · refine hD.set (by omega) (by rw [hn]; exact hE) g4 g1 g3 (by rw [hn]; exact g2) (g5.elim .inl (fun q => .inr (fun k hk => ?_))) hc (fun c => ?_) (ht.turned0 T6)
    · have := q k hk; omega
    · exact Nat.lt_irrefl _ (h.own_lt _ c)
  · rw [if_pos hE, hn]; rfl
  · refine g5.elim .inl (fun q => .inr (fun k hk => ?_))
    have := q k hk
    have := T6.size
    omega
set_option maxRecDepth 100000 in
set_option maxHeartbeats 3200000 in
theorem set88 (h : BI p bb sb lv tv m l w) (ht : t.In p w) (hs : slim t) (n : Int) (h64 : I64 n) :
    Calls Try.prog 88 #[.pointer (some ⟨bb, 0, none⟩), .int .i64 n, t.val] w fun e w' => e = .returned (.int .i64 (Tm.setE m (bt l) n t.bare)) ∧ SetQ p bb sb m lv tv l w n t w' := by
  have hmm := @run_makeMap Try.prog
  have T1 := (Turned.refl (fun _ => False) w).alloc (.cells #[.int .i64 t.kind, .int .i64 t.n, .string t.name, .slice t.at_.1 t.args.length t.at_.2] 27)
  have hbx := heap_alloc_new w (.cells #[.int .i64 t.kind, .int .i64 t.n, .string t.name, .slice t.at_.1 t.args.length t.at_.2] 27)
  have hgv := given143q (h.turned0 T1) n
  have how := own144 (h.turned0 T1) (ht.turned0 T1) hs
  have H := Lib.hid h
  have HT := Lib.hid ht
  have HV := LT.val_eq t
  rw [HV] at how ⊢
  have HT1 := Lib.hid T1
  have HBX := Lib.hid hbx
  have HEB := Lib.hid (ownB_bare m t)
  by_cases hn0 : 0 ≤ n ∧ n < (m : Int)
  · rw [decide_eq_true hn0] at hgv
    have HGV := Lib.hid hgv
    obtain ⟨hv0, hv1⟩ := hn0
    cases hob : Tm.ownB m t with
    | false =>
      rw [hob] at how
      have hE : Tm.setE m (bt l) n t.bare = 1 := by unfold Tm.setE; rw [HEB.out, hob, if_neg (fun c => Bool.false_ne_true c.2.2)]
      have HE := Lib.hid hE
      have HOW := Lib.hid how
      clear h ht hs hgv how hE hob T1 hbx HV
      go_enter Try.func88, Try.ntmps88
      go_wp2_with (first
        | (go_at_call 143; (with_reducible refine HGV.out.mono ?_); rintro e w3 ⟨rfl, rfl⟩)
        | (go_at_call 144; (with_reducible refine HOW.out.mono ?_); rintro e w4 ⟨rfl, T4⟩))
      go_ret
      exact ⟨by rw [HE.out]; rfl, SetQ.same H.out (by rw [HE.out]; decide) (HT1.out.trans T4)⟩
    | true =>
      rw [hob] at how
      have HOW := Lib.hid how
      have hgb := Tm.ownB_iff.1 (show Tm.ownB m t.bare = true by rw [HEB.out]; exact hob)
      obtain ⟨g, cl, hle⟩ := h.row.shape_pos (by omega)
      subst hle
      have hmx := h.row.max
      have hm65 := h.most
      have hfacts : ∀ W, Turned (fun _ => False) (w.alloc (.cells #[.int .i64 t.kind, .int .i64 t.n, .string t.name, .slice t.at_.1 t.args.length t.at_.2] 27)) W → W.cell? ⟨bb, 0, none⟩ = some (.slice (some ⟨g, 0, none⟩) m cl) ∧ W.cell? ⟨bb, 1, none⟩ = some (.pointer (some ⟨sb, 0, none⟩)) ∧ W.cell? ⟨g, n.toNat, none⟩ = some (ptrV (lookL l n)) ∧ W.frozen? ⟨g, n.toNat, none⟩ = false ∧ W.heap[w.heap.size]? = some (.cells #[.int .i64 t.kind, .int .i64 t.n, .string t.name, .slice t.at_.1 t.args.length t.at_.2] 27 (0, 0)) ∧ BI p bb sb (.slice (some ⟨g, 0, none⟩) m cl) tv m l W := by
        intro W hW
        have hb := H.out.turned0 (HT1.out.trans hW)
        obtain ⟨c0, c1, _⟩ := rec2b hb.b
        have hr := hb.row.cells rfl n.toNat _ (ptrs_at (by omega))
        rw [Int.toNat_of_nonneg hv0] at hr
        exact ⟨c0, c1, hr, hb.row.free rfl _, (hW.block _ (by simp) (fun f => f)).trans HBX.out, hb⟩
      have HF := Lib.hid hfacts
      cases hlk : lookL l n with
      | some cy =>
        obtain ⟨c, y⟩ := cy
        have hE : Tm.setE m (bt l) n t.bare = 8 := by
          unfold Tm.setE
          rw [HEB.out, if_pos ⟨hv0, hv1, hob⟩, if_pos]
          exact Classical.byContradiction (fun c => by
            have := h.free.2 c
            rw [hlk] at this
            cases this)
        have HE := Lib.hid hE
        have HLK := Lib.hid hlk
        clear h ht hs hgv how hE hob T1 hbx HV hfacts hlk hgb
        go_enter Try.func88, Try.ntmps88
        go_wp2_with (first
          | (go_at_call 143; (with_reducible refine HGV.out.mono ?_); rintro e w3 ⟨rfl, rfl⟩)
          | (go_at_call 144; (with_reducible refine HOW.out.mono ?_); rintro e w4 ⟨rfl, T4⟩; obtain ⟨b0, b1, b2, b3, b4, b5⟩ := HF.out _ T4; rw [HLK.out, ptrV] at b2; clear b4 b5))
        go_ret
        exact ⟨by rw [HE.out]; rfl, SetQ.same H.out (by rw [HE.out]; decide) (HT1.out.trans T4)⟩
      | none =>
        have hdom := h.free.1 hlk
        have hwi : ∀ W, Turned (fun _ => False) (w.alloc (.cells #[.int .i64 t.kind, .int .i64 t.n, .string t.name, .slice t.at_.1 t.args.length t.at_.2] 27)) W → Calls Try.prog 145 #[.pointer (some ⟨bb, 0, none⟩), .int .i64 n, .agg #[.int .i64 t.kind, .int .i64 t.n, .string t.name, .slice t.at_.1 t.args.length t.at_.2], .map (some W.heap.size)] (W.alloc (.map #[] 0)) fun e w' => e = .returned (.bool (decide (n ∈ (Tm.img (bt l) t.bare).vars))) ∧ Turned (· = W.heap.size) (W.alloc (.map #[] 0)) w' := by
          intro W hW
          have hb := (HF.out W hW).2.2.2.2.2
          have hq := within145 (mb := W.heap.size) (hb.turned0 ((Turned.refl _ W).alloc (.map #[] 0))) (HT.out.turned0 ((HT1.out.trans hW).alloc _)) hob hdom (IMap.made W Try.prog 2)
            ⟨fun c => Nat.lt_irrefl _ (hb.own_lt _ c), fun b hbm c => (by have := (Array.getElem?_eq_some_iff.1 (hb.terms b hbm).1).1; omega), fun c => Nat.lt_irrefl _ (hb.sep _ c).1⟩
          rw [HV] at hq
          exact hq
        have HLK := Lib.hid hlk
        by_cases hvv : n ∈ (Tm.img (bt l) t.bare).vars
        · have hE : Tm.setE m (bt l) n t.bare = 5 := by
            unfold Tm.setE
            rw [HEB.out, if_pos ⟨hv0, hv1, hob⟩, if_neg hdom, if_pos hvv]
          have HE := Lib.hid hE
          rw [decide_eq_true hvv] at hwi
          have HWI := Lib.hid hwi
          clear h ht hs hgv how hE hob T1 hbx HV hfacts hlk hgb hdom hvv hwi
          go_enter Try.func88, Try.ntmps88
          go_wp2_with (first
            | (go_at_call 143; (with_reducible refine HGV.out.mono ?_); rintro e w3 ⟨rfl, rfl⟩)
            | (go_at_call 144; (with_reducible refine HOW.out.mono ?_); rintro e w4 ⟨rfl, T4⟩; obtain ⟨b0, b1, b2, b3, b4, b5⟩ := HF.out _ T4; rw [HLK.out, ptrV] at b2; obtain ⟨x0, x1, x2, x3, _⟩ := cells4 b4; clear b4 b5)
            | (go_at_call 145; (with_reducible refine (HWI.out _ T4).mono ?_); rintro e w6 ⟨rfl, T6⟩))
          go_ret
          exact ⟨by rw [HE.out]; rfl, SetQ.same H.out (by rw [HE.out]; decide) ((HT1.out.trans T4).trans (noted0 T6))⟩
        · have hE : Tm.setE m (bt l) n t.bare = 0 := by
            unfold Tm.setE
            rw [HEB.out, if_pos ⟨hv0, hv1, hob⟩, if_neg hdom, if_neg hvv]
          have HE := Lib.hid hE
          rw [decide_eq_false hvv] at hwi
          have HWI := Lib.hid hwi
          have hne : ¬ bb = g := fun e => h.ne.2.1 (by rw [e]; rfl)
          have hne' : ¬ g = bb := fun e => hne e.symm
          have hlen := h.length
          have hll : l.length < 65536 := by
            have := nodup_length m (n :: Tm.dom (bt l)) (List.nodup_cons.2 ⟨hdom, Tm.okT_nodup h.ok⟩) (fun x hx => by
              rcases List.mem_cons.1 hx with rfl | hx
              · exact ⟨hv0, hv1⟩
              · obtain ⟨b, hb, rfl⟩ := List.mem_map.1 hx
                have := Tm.okT_mem h.ok hb
                exact ⟨this.1, this.2.1⟩)
            simp [Tm.dom, bt_length] at this
            omega
          clear h ht hs hgv how hE hob T1 hbx HV hfacts hlk hgb hdom hvv hwi
          go_enter Try.func88, Try.ntmps88
          go_wp2_with (first
            | (go_at_call 143; (with_reducible refine HGV.out.mono ?_); rintro e w3 ⟨rfl, rfl⟩)
            | (go_at_call 144; (with_reducible refine HOW.out.mono ?_); rintro e w4 ⟨rfl, T4⟩; obtain ⟨b0, b1, b2, b3, b4, b5⟩ := HF.out _ T4; rw [HLK.out, ptrV] at b2; obtain ⟨x0, x1, x2, x3, _⟩ := cells4 b4; clear b4 b5)
            | (go_at_call 145; (with_reducible refine (HWI.out _ T4).mono ?_); rintro e w6 ⟨rfl, T6⟩; have TM := T4.trans (noted0 T6); obtain ⟨d0, d1, d2, d3, d4, d5⟩ := HF.out _ TM; have HD4 := Lib.hid d4; have HD5 := Lib.hid d5; have HTM := Lib.hid TM; clear b0 b1 b2 b3 x0 x1 x2 x3 d4 d5 TM; rw [HLK.out, ptrV] at d2)
            | (go_at_call 146; (with_reducible refine (push_at HD5.out hll (by omega)).mono ?_); rintro e w9 ⟨rfl, tv', g1, g2, g3, g4, g5⟩; have HG := Lib.hid (And.intro g1 (And.intro g2 (And.intro g3 (And.intro g4 g5)))); clear g1 g2 g3 g4 g5))
          go_ret
          refine ⟨by rw [HE.out]; rfl, SetQ.done H.out HT.out hv0 hv1 HE.out (HT1.out.trans HTM.out) HD5.out HD4.out HG.out.1 HG.out.2.1 HG.out.2.2.1 HG.out.2.2.2.1 HG.out.2.2.2.2⟩
  · rw [decide_eq_false hn0] at hgv
    have HGV := Lib.hid hgv
    have hE : Tm.setE m (bt l) n t.bare = 1 := by unfold Tm.setE; rw [if_neg (fun c => hn0 ⟨c.1, c.2.1⟩)]
    have HE := Lib.hid hE
    clear h ht hs hgv how hE hn0 hbx HV T1
    go_enter Try.func88, Try.ntmps88
    go_wp2_with (go_at_call 143; (with_reducible refine HGV.out.mono ?_); rintro e w3 ⟨rfl, rfl⟩)
    go_ret
    exact ⟨by rw [HE.out]; rfl, SetQ.same H.out (by rw [HE.out]; decide) HT1.out⟩
end
end Go.Proofs.Ytoihjobdfjajfaa

/- bind.Whole. -/
namespace Go.Proofs.Ytoihjobdfjajfaa
set_option linter.unusedVariables false
set_option linter.unusedSimpArgs false
open Go.RowKit Go.Maps
/-- What Whole answers. -/
def wholeE (m : Nat) (l : Tm.Trail) (t : Tm Unit) : Int := if Tm.ownB m t = true then (if Tm.wholeB l t = true then 0 else 12) else 1
def wholeT (m : Nat) (l : Tm.Trail) (t : Tm Unit) : Tm Unit := if wholeE m l t = 0 then Tm.img l t else (leaf 0 0 ByteArray.empty).bare
section
variable {p : Nat → Prop} {bb sb m : Nat} {lv tv : Value} {l : TL} {w w' : World} {t : LT}
set_option maxRecDepth 100000 in
set_option maxHeartbeats 3200000 in
theorem whole89 (h : BI p bb sb lv tv m l w) (ht : t.In p w) (hs : slim t) :
    Calls Try.prog 89 #[.pointer (some ⟨bb, 0, none⟩), t.val] w fun e w' => ∃ u : LT, e = .returned (.tuple #[u.val, .int .i64 (wholeE m (bt l) t.bare)]) ∧ u.bare = wholeT m (bt l) t.bare ∧ u.In (fun k => p k ∨ w.heap.size ≤ k) w' ∧ Turned (fun _ => False) w w' := by
  have h2 := twoBox w (.cells #[.int .i64 t.kind, .int .i64 t.n, .string t.name, .slice t.at_.1 t.args.length t.at_.2] 27) (.cells #[.int .i64 0, .int .i64 0, .string ⟨#[]⟩, .slice none 0 0] 27)
  obtain ⟨w2, hw2⟩ : ∃ z, z = (w.alloc (.cells #[.int .i64 t.kind, .int .i64 t.n, .string t.name, .slice t.at_.1 t.args.length t.at_.2] 27)).alloc (.cells #[.int .i64 0, .int .i64 0, .string ⟨#[]⟩, .slice none 0 0] 27) := ⟨_, rfl⟩
  rw [← hw2] at h2
  have hkp : ∀ W, Turned (fun _ => False) w2 W → W.heap[w.heap.size]? = some (.cells #[.int .i64 t.kind, .int .i64 t.n, .string t.name, .slice t.at_.1 t.args.length t.at_.2] 27 (0, 0)) ∧ W.heap[w.heap.size + 1]? = some (.cells #[.int .i64 0, .int .i64 0, .string ⟨#[]⟩, .slice none 0 0] 27 (0, 0)) := fun W hW => ⟨(hW.block _ (by have := h2.2.1; omega) (fun f => f)).trans h2.2.2.1, (hW.block _ (by have := h2.2.1; omega) (fun f => f)).trans h2.2.2.2⟩
  have how := own144 (h.turned0 h2.1) (ht.turned0 h2.1) hs
  have HV := LT.val_eq t
  rw [HV] at how
  rw [HV]
  have HOW := Lib.hid how
  have HKP := Lib.hid hkp
  have HT2 := Lib.hid h2.1
  have HS2 := Lib.hid h2.2.1
  have HW2 := Lib.hid hw2
  have HH := Lib.hid h
  have HT := Lib.hid ht
  have HVV := Lib.hid HV
  have hob0 := ownB_bare m t
  clear how hkp h2 hw2 h ht hs HV
  cases hob : Tm.ownB m t with
  | false =>
    have HE : Hid (wholeE m (bt l) t.bare = 1) := by show _ = _; unfold wholeE; rw [hob0, hob]; rfl
    have HU : Hid (wholeT m (bt l) t.bare = (leaf 0 0 ByteArray.empty).bare) := by show _ = _; unfold wholeT; rw [HE.out]; rfl
    rw [hob] at HOW
    clear hob hob0
    go_enter Try.func89, Try.ntmps89
    go_wp2_with (go_at_call 144; rw [← HW2.out]; (with_reducible refine HOW.out.mono ?_); rintro e w4 ⟨rfl, T4⟩; obtain ⟨_, hz⟩ := HKP.out _ T4; obtain ⟨z0, z1, z2, z3, f0, f1, f2, f3⟩ := cells4 hz; have HZ := Lib.hid hz; clear hz)
    have hset := set4 (a' := .int .i64 0) (b' := .int .i64 0) (c' := .string ⟨#[]⟩) (d' := .slice none 0 0) HZ.out
    have Tq := turned_store4 w4 (w.heap.size + 1) (.int .i64 0) (.int .i64 0) (.string ⟨#[]⟩) (.slice none 0 0)
    refine bodyPost_ret (results_cell_tmp1 Try.results89 _ _ (w.heap.size + 1) 27 _ (0, 0) _ rfl hset Try.underlying27 rfl (by kernel_rfl)) rfl ⟨leaf 0 0 ByteArray.empty, by rw [HE.out]; rfl, HU.out.symm, leafIn' (i64_lit _ (by omega)) (i64_lit _ (by omega)) (by unfold maxLen; decide), (HT2.out.trans T4).step Tq (fun i hi e => by omega)⟩
  | true =>
    have hgb := Tm.ownB_iff.1 (show Tm.ownB m t.bare = true by rw [hob0, hob])
    rw [hob] at HOW
    obtain ⟨ok, hok⟩ : ∃ z, z = Tm.wholeB (bt l) t.bare := ⟨_, rfl⟩
    have hmk : ∀ W, Turned (fun _ => False) w2 W → Calls Try.prog 147 #[.pointer (some ⟨W.heap.size, 0, none⟩), .agg #[.int .i64 t.kind, .int .i64 t.n, .string t.name, .slice t.at_.1 t.args.length t.at_.2], .int .i64 1] (W.alloc (.cells #[.pointer (some ⟨bb, 0, none⟩), .int .i64 0] 170)) fun e w' => ∃ u : LT, e = .returned (.tuple #[u.val, .bool ok]) ∧ u.In (fun k => p k ∨ w.heap.size + 2 ≤ k) w' ∧ (ok = true → u.bare = Tm.img (bt l) t.bare) ∧ Turned (fun _ => False) W w' := by
      intro W hW
      have hb := HH.out.turned0 (HT2.out.trans hW)
      have TA : Turned (fun _ => False) W (W.alloc (.cells #[.pointer (some ⟨bb, 0, none⟩), .int .i64 0] 170)) := (Turned.refl _ W).alloc _
      have := make147 (K := W.heap.size) 65 t (W.alloc (.cells #[.pointer (some ⟨bb, 0, none⟩), .int .i64 0] 170)) 0 1 (by omega) (by omega) (hb.turned0 TA) (HT.out.turned0 ((HT2.out.trans hW).trans TA)) (Tm.good_ones' hgb.1) ⟨fun c => Nat.lt_irrefl _ (hb.own_lt _ c), fun b hbm c => (by have := (Array.getElem?_eq_some_iff.1 (hb.terms b hbm).1).1; omega), fun c => Nat.lt_irrefl _ (hb.sep _ c).1⟩ (heap_alloc_new W _) (by omega)
      rw [HVV.out] at this
      refine this.mono (fun e w' ⟨u, h1, h2, h3, _, h5⟩ => ⟨u, ?_, h2.mono (fun k _ hk => hk.elim .inl (fun hk => .inr (by have := (hW.trans TA).size; have := HS2.out; omega))), fun e => h3 (by rw [Tm.makeOk_whole, ← hok, e]), TA.step h5 (fun i hi e => by omega)⟩)
      rw [h1, Tm.makeOk_whole, ← hok]
    have HMK := Lib.hid hmk
    have HE : Hid (wholeE m (bt l) t.bare = if ok = true then 0 else 12) := by show _ = _; unfold wholeE; rw [hob0, hob, ← hok]; rfl
    have HU : Hid (wholeT m (bt l) t.bare = if ok = true then Tm.img (bt l) t.bare else (leaf 0 0 ByteArray.empty).bare) := by
      show _ = _
      unfold wholeT
      rw [HE.out]
      cases ok <;> rfl
    clear hob hob0 hmk hgb hok
    cases ok with
    | false =>
      go_enter Try.func89, Try.ntmps89
      go_wp2_with (first
        | (go_at_call 144; rw [← HW2.out]; (with_reducible refine HOW.out.mono ?_); rintro e w4 ⟨rfl, T4⟩; obtain ⟨hc, _⟩ := HKP.out _ (T4.alloc (.cells #[.pointer (some ⟨bb, 0, none⟩), .int .i64 0] 170)); obtain ⟨c0, c1, c2, c3, _⟩ := cells4 hc; have HT4 := Lib.hid T4; clear hc)
        | (go_at_call 147; (with_reducible refine (HMK.out _ T4).mono ?_); rintro e w7 ⟨u, rfl, hui, _, T7⟩; rw [LT.val_eq]; have T8 := (T7.alloc (.cells #[.int .i64 u.kind, .int .i64 u.n, .string u.name, .slice u.at_.1 u.args.length u.at_.2] 27)); have hz8 := (HKP.out _ (HT4.out.trans T8)).2; obtain ⟨z0, z1, z2, z3, f0, f1, f2, f3⟩ := cells4 hz8; have HZ := Lib.hid hz8; have HT8 := Lib.hid T8; clear hz8 T7 T8 hui))
      have hset := set4 (a' := .int .i64 0) (b' := .int .i64 0) (c' := .string ⟨#[]⟩) (d' := .slice none 0 0) HZ.out
      have Tq := fun W => turned_store4 W (w.heap.size + 1) (.int .i64 0) (.int .i64 0) (.string ⟨#[]⟩) (.slice none 0 0)
      refine bodyPost_ret (results_cell_tmp1 Try.results89 _ _ (w.heap.size + 1) 27 _ (0, 0) _ rfl hset Try.underlying27 rfl (by kernel_rfl)) rfl ⟨leaf 0 0 ByteArray.empty, by rw [HE.out]; rfl, HU.out.symm, leafIn' (i64_lit _ (by omega)) (i64_lit _ (by omega)) (by unfold maxLen; decide), ((HT2.out.trans HT4.out).trans HT8.out).step (Tq _) (fun i hi e => by omega)⟩
    | true =>
      go_enter Try.func89, Try.ntmps89
      go_wp2_with (first
        | (go_at_call 144; rw [← HW2.out]; (with_reducible refine HOW.out.mono ?_); rintro e w4 ⟨rfl, T4⟩; obtain ⟨hc, _⟩ := HKP.out _ (T4.alloc (.cells #[.pointer (some ⟨bb, 0, none⟩), .int .i64 0] 170)); obtain ⟨c0, c1, c2, c3, _⟩ := cells4 hc; have HT4 := Lib.hid T4; clear hc)
        | (go_at_call 147; ((with_reducible refine (HMK.out _ T4).mono ?_); rintro e w7 ⟨u, rfl, hui, hub, T7⟩; rw [LT.val_eq]; have T8 := (T7.alloc (.cells #[.int .i64 u.kind, .int .i64 u.n, .string u.name, .slice u.at_.1 u.args.length u.at_.2] 27)); have hz8 := (HKP.out _ (HT4.out.trans T8)).2; obtain ⟨z0, z1, z2, z3, f0, f1, f2, f3⟩ := cells4 hz8; have HZ := Lib.hid hz8; have HT8 := Lib.hid T8; have HUI := Lib.hid (hui.turned0 ((Turned.refl _ w7).alloc (.cells #[.int .i64 u.kind, .int .i64 u.n, .string u.name, .slice u.at_.1 u.args.length u.at_.2] 27))); have HUB := Lib.hid (hub (by trivial)); clear hz8 T7 T8 hui hub)))
      have hset := set4 (a' := .int .i64 u.kind) (b' := .int .i64 u.n) (c' := .string u.name) (d' := .slice u.at_.1 u.args.length u.at_.2) HZ.out
      have Tq := fun W => turned_store4 W (w.heap.size + 1) (.int .i64 u.kind) (.int .i64 u.n) (.string u.name) (.slice u.at_.1 u.args.length u.at_.2)
      refine bodyPost_ret (results_cell_tmp1 Try.results89 _ _ (w.heap.size + 1) 27 _ (0, 0) _ rfl hset Try.underlying27 rfl (by kernel_rfl)) rfl ⟨u, by rw [HE.out, LT.val_eq]; rfl, HUB.out.trans HU.out.symm, ?_, ((HT2.out.trans HT4.out).trans HT8.out).step (Tq _) (fun i hi e => by omega)⟩
      exact HUI.out.turned (Tq _) (fun k _ hk e => by
        rcases hk with hk | hk
        · have := (HH.out.sep k hk).1; omega
        · omega) (fun k _ hk => hk.elim .inl (fun hk => .inr (by omega)))
end
end Go.Proofs.Ytoihjobdfjajfaa

/- deep, as each chapter's laws have it. Printed by a program out of Deep.lean. -/
namespace Go.Proofs.Ytoihjobdfjajfaa
set_option linter.unusedVariables false
set_option linter.unusedSimpArgs false
open Go.RowKit

set_option maxHeartbeats 800000 in
theorem deep41 (p : Nat → Prop) (k : Nat) : ∀ (t : LT) (w : World), k ≤ 1000 → t.In p w →
    Calls Try.prog 41 #[t.val, .int .i64 k] w fun e w' => e = .returned (.bool (deepB k t)) ∧ Turned (fun _ => False) w w' := by
  induction k with
  | zero =>
    intro t w hk ht
    rw [LT.val_eq]
    go_enter Try.func41, Try.ntmps41
    go_wp2_with fail
    go_ret
    exact ⟨rfl, (Turned.refl _ _).alloc _⟩
  | succ k ih =>
    intro t w hk ht
    rw [LT.val_eq]
    have hl := ht.len
    have hm := hl.2.1
    have hm1 := hl.1
    unfold maxLen at hm
    by_cases h12 : 12 < t.args.length
    · go_enter Try.func41, Try.ntmps41
      go_wp2_with fail
      go_ret
      exact ⟨by simp [deepB, h12], (Turned.refl _ _).alloc _⟩
    · have hd : decide (12 < (t.args.length : Int)) = false := by simp; omega
      have hgo : deepB (k + 1) t = t.args.any (deepB k) := by simp [deepB, h12]
      rw [hgo]
      clear hgo
      go_enter Try.func41, Try.ntmps41
      go_wp2_with fail
      have T1 := (Turned.refl (fun _ => False) w).alloc (.cells #[.int .i64 t.kind, .int .i64 t.n, .string t.name, .slice t.at_.1 t.args.length t.at_.2] 27)
      have hb1 := boxed w #[.int .i64 t.kind, .int .i64 t.n, .string t.name, .slice t.at_.1 t.args.length t.at_.2] 27 3
      revert T1 hb1
      generalize w.alloc (.cells #[.int .i64 t.kind, .int .i64 t.n, .string t.name, .slice t.at_.1 t.args.length t.at_.2] 27) = w1
      intro T1 hb1
      have ht1 := ht.turned0 T1
      clear ht hl
      go_loopw [5] (fun i wr => ∃ j : Nat, j ≤ t.args.length ∧ i = .int .i64 j ∧ (t.args.take j).any (deepB k) = false ∧ Turned (fun _ => False) w1 wr) (fun i _ => t.args.length - (intOf i).toNat)
      case atStart => exact ⟨0, Nat.zero_le _, rfl, rfl, Turned.refl _ _⟩
      case round =>
        obtain ⟨j, hj, rfl, hany, Tr⟩ := hrel
        have hb := Tr.cell0 hb1
        simp at hb
        have HA := Lib.hid hany
        clear hany
        by_cases hjl : j < t.args.length
        · have hx : t.args[j]? = some t.args[j] := List.getElem?_eq_getElem hjl
          obtain ⟨x, hxe⟩ : ∃ x, x = t.args[j] := ⟨_, rfl⟩
          rw [← hxe] at hx
          clear hxe
          have hxin := (LT.ins_iff _).1 (ht1.turned0 Tr).args x (List.mem_of_getElem? hx)
          obtain ⟨b, o, ha, _, c0, c1, c2, c3⟩ := (ht1.turned0 Tr).lies.cell hx
          have HX := Lib.hid hx
          clear hx
          rw [ha] at hb
          have hih := fun W h => ih x W (by omega) h
          rw [LT.val_eq] at hih
          have HI := Lib.hid hih
          clear hih ih
          have HAd := Lib.hid ha
          clear ha
          go_wp2_with (go_at_call 41; refine (HI.out _ hxin).mono ?_; rintro e w2 ⟨rfl, T2⟩)
          · have hd : deepB k x = true := by assumption
            go_ret
            exact ⟨ret_bool (any_yes _ _ _ _ HX.out hd).symm, T1.trans (Tr.trans T2)⟩
          · have hd : deepB k x = false := by assumption
            go_roundw
            case rel => exact ⟨j + 1, by omega, by go_num, by rw [any_snoc _ _ _ _ HX.out, HA.out, hd]; rfl, Tr.trans T2⟩
            case measure => simp [intOf]; omega
        · go_wp2_with fail
          go_ret
          refine ⟨?_, T1.trans Tr⟩
          have : j = t.args.length := by omega
          have h := HA.out
          rw [this, List.take_length] at h
          exact ret_bool h.symm
set_option maxHeartbeats 800000 in
theorem deep66 (p : Nat → Prop) (k : Nat) : ∀ (t : LT) (w : World), k ≤ 1000 → t.In p w →
    Calls Try.prog 66 #[t.val, .int .i64 k] w fun e w' => e = .returned (.bool (deepB k t)) ∧ Turned (fun _ => False) w w' := by
  induction k with
  | zero =>
    intro t w hk ht
    rw [LT.val_eq]
    go_enter Try.func66, Try.ntmps66
    go_wp2_with fail
    go_ret
    exact ⟨rfl, (Turned.refl _ _).alloc _⟩
  | succ k ih =>
    intro t w hk ht
    rw [LT.val_eq]
    have hl := ht.len
    have hm := hl.2.1
    have hm1 := hl.1
    unfold maxLen at hm
    by_cases h12 : 12 < t.args.length
    · go_enter Try.func66, Try.ntmps66
      go_wp2_with fail
      go_ret
      exact ⟨by simp [deepB, h12], (Turned.refl _ _).alloc _⟩
    · have hd : decide (12 < (t.args.length : Int)) = false := by simp; omega
      have hgo : deepB (k + 1) t = t.args.any (deepB k) := by simp [deepB, h12]
      rw [hgo]
      clear hgo
      go_enter Try.func66, Try.ntmps66
      go_wp2_with fail
      have T1 := (Turned.refl (fun _ => False) w).alloc (.cells #[.int .i64 t.kind, .int .i64 t.n, .string t.name, .slice t.at_.1 t.args.length t.at_.2] 27)
      have hb1 := boxed w #[.int .i64 t.kind, .int .i64 t.n, .string t.name, .slice t.at_.1 t.args.length t.at_.2] 27 3
      revert T1 hb1
      generalize w.alloc (.cells #[.int .i64 t.kind, .int .i64 t.n, .string t.name, .slice t.at_.1 t.args.length t.at_.2] 27) = w1
      intro T1 hb1
      have ht1 := ht.turned0 T1
      clear ht hl
      go_loopw [5] (fun i wr => ∃ j : Nat, j ≤ t.args.length ∧ i = .int .i64 j ∧ (t.args.take j).any (deepB k) = false ∧ Turned (fun _ => False) w1 wr) (fun i _ => t.args.length - (intOf i).toNat)
      case atStart => exact ⟨0, Nat.zero_le _, rfl, rfl, Turned.refl _ _⟩
      case round =>
        obtain ⟨j, hj, rfl, hany, Tr⟩ := hrel
        have hb := Tr.cell0 hb1
        simp at hb
        have HA := Lib.hid hany
        clear hany
        by_cases hjl : j < t.args.length
        · have hx : t.args[j]? = some t.args[j] := List.getElem?_eq_getElem hjl
          obtain ⟨x, hxe⟩ : ∃ x, x = t.args[j] := ⟨_, rfl⟩
          rw [← hxe] at hx
          clear hxe
          have hxin := (LT.ins_iff _).1 (ht1.turned0 Tr).args x (List.mem_of_getElem? hx)
          obtain ⟨b, o, ha, _, c0, c1, c2, c3⟩ := (ht1.turned0 Tr).lies.cell hx
          have HX := Lib.hid hx
          clear hx
          rw [ha] at hb
          have hih := fun W h => ih x W (by omega) h
          rw [LT.val_eq] at hih
          have HI := Lib.hid hih
          clear hih ih
          have HAd := Lib.hid ha
          clear ha
          go_wp2_with (go_at_call 66; refine (HI.out _ hxin).mono ?_; rintro e w2 ⟨rfl, T2⟩)
          · have hd : deepB k x = true := by assumption
            go_ret
            exact ⟨ret_bool (any_yes _ _ _ _ HX.out hd).symm, T1.trans (Tr.trans T2)⟩
          · have hd : deepB k x = false := by assumption
            go_roundw
            case rel => exact ⟨j + 1, by omega, by go_num, by rw [any_snoc _ _ _ _ HX.out, HA.out, hd]; rfl, Tr.trans T2⟩
            case measure => simp [intOf]; omega
        · go_wp2_with fail
          go_ret
          refine ⟨?_, T1.trans Tr⟩
          have : j = t.args.length := by omega
          have h := HA.out
          rw [this, List.take_length] at h
          exact ret_bool h.symm
set_option maxHeartbeats 800000 in
theorem deep70 (p : Nat → Prop) (k : Nat) : ∀ (t : LT) (w : World), k ≤ 1000 → t.In p w →
    Calls Try.prog 70 #[t.val, .int .i64 k] w fun e w' => e = .returned (.bool (deepB k t)) ∧ Turned (fun _ => False) w w' := by
  induction k with
  | zero =>
    intro t w hk ht
    rw [LT.val_eq]
    go_enter Try.func70, Try.ntmps70
    go_wp2_with fail
    go_ret
    exact ⟨rfl, (Turned.refl _ _).alloc _⟩
  | succ k ih =>
    intro t w hk ht
    rw [LT.val_eq]
    have hl := ht.len
    have hm := hl.2.1
    have hm1 := hl.1
    unfold maxLen at hm
    by_cases h12 : 12 < t.args.length
    · go_enter Try.func70, Try.ntmps70
      go_wp2_with fail
      go_ret
      exact ⟨by simp [deepB, h12], (Turned.refl _ _).alloc _⟩
    · have hd : decide (12 < (t.args.length : Int)) = false := by simp; omega
      have hgo : deepB (k + 1) t = t.args.any (deepB k) := by simp [deepB, h12]
      rw [hgo]
      clear hgo
      go_enter Try.func70, Try.ntmps70
      go_wp2_with fail
      have T1 := (Turned.refl (fun _ => False) w).alloc (.cells #[.int .i64 t.kind, .int .i64 t.n, .string t.name, .slice t.at_.1 t.args.length t.at_.2] 27)
      have hb1 := boxed w #[.int .i64 t.kind, .int .i64 t.n, .string t.name, .slice t.at_.1 t.args.length t.at_.2] 27 3
      revert T1 hb1
      generalize w.alloc (.cells #[.int .i64 t.kind, .int .i64 t.n, .string t.name, .slice t.at_.1 t.args.length t.at_.2] 27) = w1
      intro T1 hb1
      have ht1 := ht.turned0 T1
      clear ht hl
      go_loopw [5] (fun i wr => ∃ j : Nat, j ≤ t.args.length ∧ i = .int .i64 j ∧ (t.args.take j).any (deepB k) = false ∧ Turned (fun _ => False) w1 wr) (fun i _ => t.args.length - (intOf i).toNat)
      case atStart => exact ⟨0, Nat.zero_le _, rfl, rfl, Turned.refl _ _⟩
      case round =>
        obtain ⟨j, hj, rfl, hany, Tr⟩ := hrel
        have hb := Tr.cell0 hb1
        simp at hb
        have HA := Lib.hid hany
        clear hany
        by_cases hjl : j < t.args.length
        · have hx : t.args[j]? = some t.args[j] := List.getElem?_eq_getElem hjl
          obtain ⟨x, hxe⟩ : ∃ x, x = t.args[j] := ⟨_, rfl⟩
          rw [← hxe] at hx
          clear hxe
          have hxin := (LT.ins_iff _).1 (ht1.turned0 Tr).args x (List.mem_of_getElem? hx)
          obtain ⟨b, o, ha, _, c0, c1, c2, c3⟩ := (ht1.turned0 Tr).lies.cell hx
          have HX := Lib.hid hx
          clear hx
          rw [ha] at hb
          have hih := fun W h => ih x W (by omega) h
          rw [LT.val_eq] at hih
          have HI := Lib.hid hih
          clear hih ih
          have HAd := Lib.hid ha
          clear ha
          go_wp2_with (go_at_call 70; refine (HI.out _ hxin).mono ?_; rintro e w2 ⟨rfl, T2⟩)
          · have hd : deepB k x = true := by assumption
            go_ret
            exact ⟨ret_bool (any_yes _ _ _ _ HX.out hd).symm, T1.trans (Tr.trans T2)⟩
          · have hd : deepB k x = false := by assumption
            go_roundw
            case rel => exact ⟨j + 1, by omega, by go_num, by rw [any_snoc _ _ _ _ HX.out, HA.out, hd]; rfl, Tr.trans T2⟩
            case measure => simp [intOf]; omega
        · go_wp2_with fail
          go_ret
          refine ⟨?_, T1.trans Tr⟩
          have : j = t.args.length := by omega
          have h := HA.out
          rw [this, List.take_length] at h
          exact ret_bool h.symm
set_option maxHeartbeats 800000 in
theorem deep85 (p : Nat → Prop) (k : Nat) : ∀ (t : LT) (w : World), k ≤ 1000 → t.In p w →
    Calls Try.prog 85 #[t.val, .int .i64 k] w fun e w' => e = .returned (.bool (deepB k t)) ∧ Turned (fun _ => False) w w' := by
  induction k with
  | zero =>
    intro t w hk ht
    rw [LT.val_eq]
    go_enter Try.func85, Try.ntmps85
    go_wp2_with fail
    go_ret
    exact ⟨rfl, (Turned.refl _ _).alloc _⟩
  | succ k ih =>
    intro t w hk ht
    rw [LT.val_eq]
    have hl := ht.len
    have hm := hl.2.1
    have hm1 := hl.1
    unfold maxLen at hm
    by_cases h12 : 12 < t.args.length
    · go_enter Try.func85, Try.ntmps85
      go_wp2_with fail
      go_ret
      exact ⟨by simp [deepB, h12], (Turned.refl _ _).alloc _⟩
    · have hd : decide (12 < (t.args.length : Int)) = false := by simp; omega
      have hgo : deepB (k + 1) t = t.args.any (deepB k) := by simp [deepB, h12]
      rw [hgo]
      clear hgo
      go_enter Try.func85, Try.ntmps85
      go_wp2_with fail
      have T1 := (Turned.refl (fun _ => False) w).alloc (.cells #[.int .i64 t.kind, .int .i64 t.n, .string t.name, .slice t.at_.1 t.args.length t.at_.2] 27)
      have hb1 := boxed w #[.int .i64 t.kind, .int .i64 t.n, .string t.name, .slice t.at_.1 t.args.length t.at_.2] 27 3
      revert T1 hb1
      generalize w.alloc (.cells #[.int .i64 t.kind, .int .i64 t.n, .string t.name, .slice t.at_.1 t.args.length t.at_.2] 27) = w1
      intro T1 hb1
      have ht1 := ht.turned0 T1
      clear ht hl
      go_loopw [5] (fun i wr => ∃ j : Nat, j ≤ t.args.length ∧ i = .int .i64 j ∧ (t.args.take j).any (deepB k) = false ∧ Turned (fun _ => False) w1 wr) (fun i _ => t.args.length - (intOf i).toNat)
      case atStart => exact ⟨0, Nat.zero_le _, rfl, rfl, Turned.refl _ _⟩
      case round =>
        obtain ⟨j, hj, rfl, hany, Tr⟩ := hrel
        have hb := Tr.cell0 hb1
        simp at hb
        have HA := Lib.hid hany
        clear hany
        by_cases hjl : j < t.args.length
        · have hx : t.args[j]? = some t.args[j] := List.getElem?_eq_getElem hjl
          obtain ⟨x, hxe⟩ : ∃ x, x = t.args[j] := ⟨_, rfl⟩
          rw [← hxe] at hx
          clear hxe
          have hxin := (LT.ins_iff _).1 (ht1.turned0 Tr).args x (List.mem_of_getElem? hx)
          obtain ⟨b, o, ha, _, c0, c1, c2, c3⟩ := (ht1.turned0 Tr).lies.cell hx
          have HX := Lib.hid hx
          clear hx
          rw [ha] at hb
          have hih := fun W h => ih x W (by omega) h
          rw [LT.val_eq] at hih
          have HI := Lib.hid hih
          clear hih ih
          have HAd := Lib.hid ha
          clear ha
          go_wp2_with (go_at_call 85; refine (HI.out _ hxin).mono ?_; rintro e w2 ⟨rfl, T2⟩)
          · have hd : deepB k x = true := by assumption
            go_ret
            exact ⟨ret_bool (any_yes _ _ _ _ HX.out hd).symm, T1.trans (Tr.trans T2)⟩
          · have hd : deepB k x = false := by assumption
            go_roundw
            case rel => exact ⟨j + 1, by omega, by go_num, by rw [any_snoc _ _ _ _ HX.out, HA.out, hd]; rfl, Tr.trans T2⟩
            case measure => simp [intOf]; omega
        · go_wp2_with fail
          go_ret
          refine ⟨?_, T1.trans Tr⟩
          have : j = t.args.length := by omega
          have h := HA.out
          rw [this, List.take_length] at h
          exact ret_bool h.symm
set_option maxHeartbeats 800000 in
theorem deep92 (p : Nat → Prop) (k : Nat) : ∀ (t : LT) (w : World), k ≤ 1000 → t.In p w →
    Calls Try.prog 92 #[t.val, .int .i64 k] w fun e w' => e = .returned (.bool (deepB k t)) ∧ Turned (fun _ => False) w w' := by
  induction k with
  | zero =>
    intro t w hk ht
    rw [LT.val_eq]
    go_enter Try.func92, Try.ntmps92
    go_wp2_with fail
    go_ret
    exact ⟨rfl, (Turned.refl _ _).alloc _⟩
  | succ k ih =>
    intro t w hk ht
    rw [LT.val_eq]
    have hl := ht.len
    have hm := hl.2.1
    have hm1 := hl.1
    unfold maxLen at hm
    by_cases h12 : 12 < t.args.length
    · go_enter Try.func92, Try.ntmps92
      go_wp2_with fail
      go_ret
      exact ⟨by simp [deepB, h12], (Turned.refl _ _).alloc _⟩
    · have hd : decide (12 < (t.args.length : Int)) = false := by simp; omega
      have hgo : deepB (k + 1) t = t.args.any (deepB k) := by simp [deepB, h12]
      rw [hgo]
      clear hgo
      go_enter Try.func92, Try.ntmps92
      go_wp2_with fail
      have T1 := (Turned.refl (fun _ => False) w).alloc (.cells #[.int .i64 t.kind, .int .i64 t.n, .string t.name, .slice t.at_.1 t.args.length t.at_.2] 27)
      have hb1 := boxed w #[.int .i64 t.kind, .int .i64 t.n, .string t.name, .slice t.at_.1 t.args.length t.at_.2] 27 3
      revert T1 hb1
      generalize w.alloc (.cells #[.int .i64 t.kind, .int .i64 t.n, .string t.name, .slice t.at_.1 t.args.length t.at_.2] 27) = w1
      intro T1 hb1
      have ht1 := ht.turned0 T1
      clear ht hl
      go_loopw [5] (fun i wr => ∃ j : Nat, j ≤ t.args.length ∧ i = .int .i64 j ∧ (t.args.take j).any (deepB k) = false ∧ Turned (fun _ => False) w1 wr) (fun i _ => t.args.length - (intOf i).toNat)
      case atStart => exact ⟨0, Nat.zero_le _, rfl, rfl, Turned.refl _ _⟩
      case round =>
        obtain ⟨j, hj, rfl, hany, Tr⟩ := hrel
        have hb := Tr.cell0 hb1
        simp at hb
        have HA := Lib.hid hany
        clear hany
        by_cases hjl : j < t.args.length
        · have hx : t.args[j]? = some t.args[j] := List.getElem?_eq_getElem hjl
          obtain ⟨x, hxe⟩ : ∃ x, x = t.args[j] := ⟨_, rfl⟩
          rw [← hxe] at hx
          clear hxe
          have hxin := (LT.ins_iff _).1 (ht1.turned0 Tr).args x (List.mem_of_getElem? hx)
          obtain ⟨b, o, ha, _, c0, c1, c2, c3⟩ := (ht1.turned0 Tr).lies.cell hx
          have HX := Lib.hid hx
          clear hx
          rw [ha] at hb
          have hih := fun W h => ih x W (by omega) h
          rw [LT.val_eq] at hih
          have HI := Lib.hid hih
          clear hih ih
          have HAd := Lib.hid ha
          clear ha
          go_wp2_with (go_at_call 92; refine (HI.out _ hxin).mono ?_; rintro e w2 ⟨rfl, T2⟩)
          · have hd : deepB k x = true := by assumption
            go_ret
            exact ⟨ret_bool (any_yes _ _ _ _ HX.out hd).symm, T1.trans (Tr.trans T2)⟩
          · have hd : deepB k x = false := by assumption
            go_roundw
            case rel => exact ⟨j + 1, by omega, by go_num, by rw [any_snoc _ _ _ _ HX.out, HA.out, hd]; rfl, Tr.trans T2⟩
            case measure => simp [intOf]; omega
        · go_wp2_with fail
          go_ret
          refine ⟨?_, T1.trans Tr⟩
          have : j = t.args.length := by omega
          have h := HA.out
          rw [this, List.take_length] at h
          exact ret_bool h.symm
set_option maxHeartbeats 800000 in
theorem deep113 (p : Nat → Prop) (k : Nat) : ∀ (t : LT) (w : World), k ≤ 1000 → t.In p w →
    Calls Try.prog 113 #[t.val, .int .i64 k] w fun e w' => e = .returned (.bool (deepB k t)) ∧ Turned (fun _ => False) w w' := by
  induction k with
  | zero =>
    intro t w hk ht
    rw [LT.val_eq]
    go_enter Try.func113, Try.ntmps113
    go_wp2_with fail
    go_ret
    exact ⟨rfl, (Turned.refl _ _).alloc _⟩
  | succ k ih =>
    intro t w hk ht
    rw [LT.val_eq]
    have hl := ht.len
    have hm := hl.2.1
    have hm1 := hl.1
    unfold maxLen at hm
    by_cases h12 : 12 < t.args.length
    · go_enter Try.func113, Try.ntmps113
      go_wp2_with fail
      go_ret
      exact ⟨by simp [deepB, h12], (Turned.refl _ _).alloc _⟩
    · have hd : decide (12 < (t.args.length : Int)) = false := by simp; omega
      have hgo : deepB (k + 1) t = t.args.any (deepB k) := by simp [deepB, h12]
      rw [hgo]
      clear hgo
      go_enter Try.func113, Try.ntmps113
      go_wp2_with fail
      have T1 := (Turned.refl (fun _ => False) w).alloc (.cells #[.int .i64 t.kind, .int .i64 t.n, .string t.name, .slice t.at_.1 t.args.length t.at_.2] 27)
      have hb1 := boxed w #[.int .i64 t.kind, .int .i64 t.n, .string t.name, .slice t.at_.1 t.args.length t.at_.2] 27 3
      revert T1 hb1
      generalize w.alloc (.cells #[.int .i64 t.kind, .int .i64 t.n, .string t.name, .slice t.at_.1 t.args.length t.at_.2] 27) = w1
      intro T1 hb1
      have ht1 := ht.turned0 T1
      clear ht hl
      go_loopw [5] (fun i wr => ∃ j : Nat, j ≤ t.args.length ∧ i = .int .i64 j ∧ (t.args.take j).any (deepB k) = false ∧ Turned (fun _ => False) w1 wr) (fun i _ => t.args.length - (intOf i).toNat)
      case atStart => exact ⟨0, Nat.zero_le _, rfl, rfl, Turned.refl _ _⟩
      case round =>
        obtain ⟨j, hj, rfl, hany, Tr⟩ := hrel
        have hb := Tr.cell0 hb1
        simp at hb
        have HA := Lib.hid hany
        clear hany
        by_cases hjl : j < t.args.length
        · have hx : t.args[j]? = some t.args[j] := List.getElem?_eq_getElem hjl
          obtain ⟨x, hxe⟩ : ∃ x, x = t.args[j] := ⟨_, rfl⟩
          rw [← hxe] at hx
          clear hxe
          have hxin := (LT.ins_iff _).1 (ht1.turned0 Tr).args x (List.mem_of_getElem? hx)
          obtain ⟨b, o, ha, _, c0, c1, c2, c3⟩ := (ht1.turned0 Tr).lies.cell hx
          have HX := Lib.hid hx
          clear hx
          rw [ha] at hb
          have hih := fun W h => ih x W (by omega) h
          rw [LT.val_eq] at hih
          have HI := Lib.hid hih
          clear hih ih
          have HAd := Lib.hid ha
          clear ha
          go_wp2_with (go_at_call 113; refine (HI.out _ hxin).mono ?_; rintro e w2 ⟨rfl, T2⟩)
          · have hd : deepB k x = true := by assumption
            go_ret
            exact ⟨ret_bool (any_yes _ _ _ _ HX.out hd).symm, T1.trans (Tr.trans T2)⟩
          · have hd : deepB k x = false := by assumption
            go_roundw
            case rel => exact ⟨j + 1, by omega, by go_num, by rw [any_snoc _ _ _ _ HX.out, HA.out, hd]; rfl, Tr.trans T2⟩
            case measure => simp [intOf]; omega
        · go_wp2_with fail
          go_ret
          refine ⟨?_, T1.trans Tr⟩
          have : j = t.args.length := by omega
          have h := HA.out
          rw [this, List.take_length] at h
          exact ret_bool h.symm
end Go.Proofs.Ytoihjobdfjajfaa

/- sizarlaw13's awake: what the document tells of two variables. -/
namespace Go.Proofs.Ytoihjobdfjajfaa
set_option linter.unusedVariables false
set_option linter.unusedSimpArgs false
open Go.RowKit Go.Maps
def pT : Tm Unit := .mk 2 0 ⟨#[102]⟩ () [Tm.V 0, Tm.V 1, Tm.V 0]
theorem pT_good : goodB pT = true := by kernel_rfl
theorem goodVal' {p : Nat → Prop} {t : LT} {w : World} {b : Bool} (ht : t.In p w) (hs : slim t) (hg : goodB t = b) : Calls Try.prog 38 #[.agg #[.int .i64 t.kind, .int .i64 t.n, .string t.name, .slice t.at_.1 t.args.length t.at_.2]] w fun e w' => e = .returned (.bool b) ∧ Turned (fun _ => False) w w' := by
  have h := good38 ht hs
  rw [LT.val_eq, hg] at h
  exact h
theorem sameVal' {p : Nat → Prop} {a b : LT} {w : World} {r : Bool} (ha : a.In p w) (hb : b.In p w) (sa : slim a) (sb : slim b) (hr : sameB a b = r) : Calls Try.prog 52 #[.agg #[.int .i64 a.kind, .int .i64 a.n, .string a.name, .slice a.at_.1 a.args.length a.at_.2], .agg #[.int .i64 b.kind, .int .i64 b.n, .string b.name, .slice b.at_.1 b.args.length b.at_.2]] w fun e w' => e = .returned (.bool r) ∧ Turned (fun _ => False) w w' := by
  have h := same52 ha hb sa sb
  rw [LT.val_eq a, LT.val_eq b, hr] at h
  exact h
theorem moreVal {p : Nat → Prop} {a b : LT} {w : World} {r : Bool} (ha : a.In p w) (hb : b.In p w) (sa : slim a) (sb : slim b) (hr : moreB a b = r) : Calls Try.prog 78 #[.agg #[.int .i64 a.kind, .int .i64 a.n, .string a.name, .slice a.at_.1 a.args.length a.at_.2], .agg #[.int .i64 b.kind, .int .i64 b.n, .string b.name, .slice b.at_.1 b.args.length b.at_.2]] w fun e w' => e = .returned (.bool r) ∧ Turned (fun _ => False) w w' := by
  have h := more78 ha hb sa sb
  rw [LT.val_eq a, LT.val_eq b, hr] at h
  exact h
theorem alikeVal {p : Nat → Prop} {a b : LT} {w : World} {r : Bool} (ha : a.In p w) (hb : b.In p w) (sa : slim a) (sb : slim b) (hr : alikeB a b = r) : Calls Try.prog 72 #[.agg #[.int .i64 a.kind, .int .i64 a.n, .string a.name, .slice a.at_.1 a.args.length a.at_.2], .agg #[.int .i64 b.kind, .int .i64 b.n, .string b.name, .slice b.at_.1 b.args.length b.at_.2]] w fun e w' => e = .returned (.bool r) ∧ Turned (fun _ => False) w w' := by
  have h := alike72 ha hb sa sb
  rw [LT.val_eq a, LT.val_eq b, hr] at h
  exact h
theorem groundVal {p : Nat → Prop} {t : LT} {w : World} {r : Bool} (ht : t.In p w) (hs : slim t) (hr : (goodB t && decide (t.vars = [])) = r) : Calls Try.prog 73 #[.agg #[.int .i64 t.kind, .int .i64 t.n, .string t.name, .slice t.at_.1 t.args.length t.at_.2]] w fun e w' => e = .returned (.bool r) ∧ Turned (fun _ => False) w w' := by
  have h := ground73 ht hs
  rw [LT.val_eq, hr] at h
  exact h
theorem deepVal (k : Nat) (t : LT) (W : World) (n : Int) (hn : n = (k : Int)) (hk : k ≤ 1000) (h : t.In (fun _ => True) W) : Calls Try.prog 70 #[.agg #[.int .i64 t.kind, .int .i64 t.n, .string t.name, .slice t.at_.1 t.args.length t.at_.2], .int .i64 n] W fun e w' => e = .returned (.bool (deepB k t)) ∧ Turned (fun _ => False) W w' := by
  subst hn
  have := deep70 (fun _ => True) k t W hk h
  rw [LT.val_eq] at this
  exact this
def Aw13 (wz : World) : List Value → World → Prop
  | [], W => Turned (fun _ => False) wz W
  | [v], W => Turned (fun _ => False) wz W ∧ ∃ g : Nat, v = .slice (some ⟨g, 0, none⟩) 3 3 ∧ LT.Sl (fun _ => True) W (some ⟨g, 0, none⟩) 3 [leaf 0 0 ByteArray.empty, leaf 0 1 ByteArray.empty, leaf 0 0 ByteArray.empty]
  | [_, v], W => Turned (fun _ => False) wz W ∧ ∃ u : LT, v = u.val ∧ u.bare = pT ∧ u.In (fun _ => True) W
  | _, _ => False
theorem Aw13.turned {wz : World} : ∀ (hs : List Value) (W : World), Aw13 wz hs W → Turned (fun _ => False) wz W
  | [], _, h => h
  | [_], _, h => h.1
  | [_, _], _, h => h.1
  | _ :: _ :: _ :: _, _, h => h.elim
theorem Aw13.turned0 {wz : World} : ∀ (hs : List Value) (w w' : World), Aw13 wz hs w → Turned (fun _ => False) w w' → Aw13 wz hs w'
  | [], _, _, h, ht => Turned.trans h ht
  | [_], _, _, h, ht => by obtain ⟨h1, g, h2, h3⟩ := h; exact ⟨h1.trans ht, g, h2, h3.turned0 ht⟩
  | [_, _], _, _, h, ht => by obtain ⟨h1, u, h2, h3, h4⟩ := h; exact ⟨h1.trans ht, u, h2, h3, h4.turned0 ht⟩
  | _ :: _ :: _ :: _, _, _, h, _ => h.elim
theorem Aw13.at1 {wz W : World} {hs : List Value} (h : Aw13 wz hs W) {v : Value} (hv : hs[1]? = some v) : ∃ u : LT, v = u.val ∧ u.bare = pT ∧ u.In (fun _ => True) W := by
  match hs, h, hv with
  | [_, _], h, hv => simp at hv; subst hv; exact h.2
set_option maxRecDepth 100000 in
set_option maxHeartbeats 3200000 in
theorem awake69 (w : World) : Calls Try.prog 69 #[] w fun e w' => e = .returned (.bool true) ∧ Turned (fun _ => False) w w' := by
  go_enter Try.func69, Try.ntmps69
  go_wp2_with (first
    | (go_at_call 81; refine (plainGood (t := .mk 2 0 ⟨#[102]⟩ (a4, c4) [leaf 0 7 ByteArray.empty, leaf 0 3 ByteArray.empty, leaf 0 7 ByteArray.empty]) i4 (by kernel_rfl)).mono ?_; rintro e W5 ⟨u, rfl, hub, hui, T5⟩)
    | (go_at_call 37; have := T3; refine (compV ⟨#[102]⟩ (by unfold maxLen; decide) 3 (by decide) rfl (sl_made (l := [leaf 0 7 ByteArray.empty, leaf 0 3 ByteArray.empty, leaf 0 7 ByteArray.empty]) ⟨i1.turned0 (T2.trans T3), i2.turned0 T3, i3, trivial⟩ 3 (by decide) rfl _ rfl)).mono ?_; rintro e W4 ⟨a4, c4, rfl, i4, T4⟩)
    | (go_at_call 62; have := T2; refine (varV 7 (i64_lit _ (by omega)) _).mono ?_; rintro e W3 ⟨rfl, i3, T3⟩)
    | (go_at_call 62; have := T1; refine (varV 3 (i64_lit _ (by omega)) _).mono ?_; rintro e W2 ⟨rfl, i2, T2⟩)
    | (go_at_call 62; refine (varV 7 (i64_lit _ (by omega)) _).mono ?_; rintro e W1 ⟨rfl, i1, T1⟩))
  have hup : u.bare = pT := hub.trans (by kernel_rfl)
  have TZ : Turned (fun _ => False) w (W5.alloc (.cells #[.int .i64 u.kind, .int .i64 u.n, .string u.name, .slice u.at_.1 u.args.length u.at_.2] 27)) := (T1.trans (T2.trans (T3.trans (((Turned.refl _ W3).alloc _).trans (T4.trans T5))))).alloc _
  obtain ⟨d0, d1, d2, d3, _⟩ := boxAt (Turned.refl (fun _ => False) (W5.alloc (.cells #[.int .i64 u.kind, .int .i64 u.n, .string u.name, .slice u.at_.1 u.args.length u.at_.2] 27)))
  have hu2 := hui.turned0 ((Turned.refl (fun _ => False) W5).alloc (.cells #[.int .i64 u.kind, .int .i64 u.n, .string u.name, .slice u.at_.1 u.args.length u.at_.2] 27))
  have HTB := And.intro (Lib.hid TZ) (And.intro d0 (And.intro d1 (And.intro d2 (And.intro d3 (Lib.hid hu2)))))
  have HUP := Lib.hid hup
  clear hup TZ d0 d1 d2 d3 hu2 hui hub T1 T2 T3 T4 T5 i1 i2 i3 i4
  revert HTB
  generalize W5.alloc (.cells #[.int .i64 u.kind, .int .i64 u.n, .string u.name, .slice u.at_.1 u.args.length u.at_.2] 27) = wz
  generalize W5.heap.size = B1
  intro HTB
  obtain ⟨HTZ, d0, d1, d2, d3, HU⟩ := HTB
  obtain ⟨B13, HB13⟩ : ∃ B, Hid (B = ((0 : Int) == 0)) := ⟨_, rfl⟩
  obtain ⟨B22, HB22⟩ : ∃ B, Hid (B = (B13 && true)) := ⟨_, rfl⟩
  obtain ⟨B26, HB26⟩ : ∃ B, Hid (B = (B22 && true)) := ⟨_, rfl⟩
  have hB13 : B13 = true := by rw [HB13.out]; rfl
  have hB26 : B26 = true := by rw [HB26.out, HB22.out, hB13]; rfl
  refine wp_region_hsW [12, 13, 14, 15, 16, 17, 18, 19, 20, 21, 22, 23, 24, 25, 26, 0] [7, 8] [0, 0, 0, 2, 0, 0, 0, 1, 2, 2, 2, 2, 2, 2, 2, 2] [19, 20] (fun d v => (match d with | 12 => v = .int .i64 0 | 13 => v = .bool B13 | 14 => v = .bool B13 | 15 => v = bif (true && (B13 == true)) then .agg #[.int .i64 u.kind, .int .i64 u.n, .string u.name, .slice u.at_.1 u.args.length u.at_.2] else undef | 16 => v = bif (true && (B13 == true)) then .agg #[.int .i64 0, .int .i64 0, .string ByteArray.empty, .slice none 0 0] else undef | 17 => v = bif (true && (B13 == true)) then .agg #[.int .i64 0, .int .i64 1, .string ByteArray.empty, .slice none 0 0] else undef | 18 => v = bif (true && (B13 == true)) then .agg #[.int .i64 0, .int .i64 0, .string ByteArray.empty, .slice none 0 0] else undef | 21 => v = bif (true && (B13 == true)) then .bool true else undef | 22 => v = .bool B22 | 23 => v = .bool B22 | 24 => v = bif (true && (B22 == true)) then .agg #[.int .i64 1, .int .i64 1, .string ByteArray.empty, .slice none 0 0] else undef | 25 => v = bif (true && (B22 == true)) then .bool true else undef | 26 => v = .bool B26 | 0 => v = .bool B26 | _ => True : Prop)) (Aw13 wz) (by kernel_rfl) rfl (by kernel_rfl) (by kernel_rfl) (by kernel_rfl) (by kernel_rfl) (fun _ h => h) (fun hs w w' h ht => Aw13.turned0 hs w w' h ht) ?hs ?hQ
  case hs =>
    refine ⟨?s0, ?s1, ?s2, ?s3, ?s4, ?s5, ?s6, ?s7, ?s8, ?s9, ?s10, ?s11, ?s12, ?s13, ?s14, ?s15, trivial⟩
    case s0 =>
      refine fun hs hle => stepG_free [] [2] (by kernel_rfl) rfl ?_
      · intro ac W hT hI hO
        have hle : hs.length ≤ 0 := hle
        have h2 : ac.tmps.getD 2 undef = .int .i64 0 := hO 2 (by simp)
        show Brings Try.prog (fun v w' => Turned (fun _ => False) W w' ∧ v = .int .i64 0) _
        simp only [execOp, Act.eval, h2]
        go_simp
        try exact ⟨Turned.refl _ _, rfl⟩
    case s1 =>
      refine fun hs hle => stepG_free [12] [] (by kernel_rfl) rfl ?_
      · intro ac W hT hI hO
        have hle : hs.length ≤ 0 := hle
        have h12 : ac.tmps.getD 12 undef = .int .i64 0 := hI 12 (by simp)
        show Brings Try.prog (fun v w' => Turned (fun _ => False) W w' ∧ v = .bool B13) _
        rw [HB13.out]
        simp only [execOp, Act.eval, h12]
        go_simp
        try exact ⟨Turned.refl _ _, rfl⟩
    case s2 =>
      refine fun hs hle => stepG_free [13] [] (by kernel_rfl) rfl ?_
      · intro ac W hT hI hO
        have hle : hs.length ≤ 0 := hle
        have h13 : ac.tmps.getD 13 undef = .bool B13 := hI 13 (by simp)
        show Brings Try.prog (fun v w' => Turned (fun _ => False) W w' ∧ v = .bool B13) _
        simp only [execOp, Act.eval, h13]
        go_simp
        try exact ⟨Turned.refl _ _, rfl⟩
    case s3 =>
      refine fun hs hle => stepG_guard [14] [1] (by kernel_rfl) 2 true 14 rfl rfl (by simp) true B13 (fun _ _ h => h) (fun hc => ?_) (fun hc _ _ => ?_)
      rotate_left
      · refine ⟨Turned.refl _ _, ?_⟩
        show undef = bif (true && (B13 == true)) then _ else undef
        rw [hc]; rfl
      · intro ac W hT hI hO
        have hle : hs.length ≤ 2 := hle
        have h14 : ac.tmps.getD 14 undef = .bool B13 := hI 14 (by simp)
        have h1 : ac.tmps.getD 1 undef = .pointer (some ⟨B1, 0, none⟩) := hO 1 (by simp)
        show Brings Try.prog (fun v w' => Turned (fun _ => False) W w' ∧ v = bif (true && (B13 == true)) then .agg #[.int .i64 u.kind, .int .i64 u.n, .string u.name, .slice u.at_.1 u.args.length u.at_.2] else undef) _
        rw [hc, cond_true]
        have Tq := Aw13.turned hs W hT; have d0 := Tq.cell0 d0; have d1 := Tq.cell0 d1; have d2 := Tq.cell0 d2; have d3 := Tq.cell0 d3
        simp only [execOp, Act.eval, h14, h1]
        go_simp
        exact ⟨Turned.refl _ _, rfl⟩
    case s4 =>
      refine fun hs hle => stepG_guard [14] [] (by kernel_rfl) 2 true 14 rfl rfl (by simp) true B13 (fun _ _ h => h) (fun hc => ?_) (fun hc _ _ => ?_)
      rotate_left
      · refine ⟨Turned.refl _ _, ?_⟩
        show undef = bif (true && (B13 == true)) then _ else undef
        rw [hc]; rfl
      · intro ac W hT hI hO
        have hle : hs.length ≤ 0 := hle
        have h14 : ac.tmps.getD 14 undef = .bool B13 := hI 14 (by simp)
        show Brings Try.prog (fun v w' => Turned (fun _ => False) W w' ∧ v = bif (true && (B13 == true)) then .agg #[.int .i64 0, .int .i64 0, .string ByteArray.empty, .slice none 0 0] else undef) _
        rw [hc, cond_true]
        simp only [execOp, Act.eval, h14]
        go_simp
        show Calls Try.prog 62 _ W _
        refine (varV 0 (i64_lit _ (by omega)) W).mono ?_
        rintro e w' ⟨rfl, _, T'⟩
        exact ⟨_, rfl, T', rfl⟩
    case s5 =>
      refine fun hs hle => stepG_guard [14] [] (by kernel_rfl) 2 true 14 rfl rfl (by simp) true B13 (fun _ _ h => h) (fun hc => ?_) (fun hc _ _ => ?_)
      rotate_left
      · refine ⟨Turned.refl _ _, ?_⟩
        show undef = bif (true && (B13 == true)) then _ else undef
        rw [hc]; rfl
      · intro ac W hT hI hO
        have hle : hs.length ≤ 0 := hle
        have h14 : ac.tmps.getD 14 undef = .bool B13 := hI 14 (by simp)
        show Brings Try.prog (fun v w' => Turned (fun _ => False) W w' ∧ v = bif (true && (B13 == true)) then .agg #[.int .i64 0, .int .i64 1, .string ByteArray.empty, .slice none 0 0] else undef) _
        rw [hc, cond_true]
        simp only [execOp, Act.eval, h14]
        go_simp
        show Calls Try.prog 62 _ W _
        refine (varV 1 (i64_lit _ (by omega)) W).mono ?_
        rintro e w' ⟨rfl, _, T'⟩
        exact ⟨_, rfl, T', rfl⟩
    case s6 =>
      refine fun hs hle => stepG_guard [14] [] (by kernel_rfl) 2 true 14 rfl rfl (by simp) true B13 (fun _ _ h => h) (fun hc => ?_) (fun hc _ _ => ?_)
      rotate_left
      · refine ⟨Turned.refl _ _, ?_⟩
        show undef = bif (true && (B13 == true)) then _ else undef
        rw [hc]; rfl
      · intro ac W hT hI hO
        have hle : hs.length ≤ 0 := hle
        have h14 : ac.tmps.getD 14 undef = .bool B13 := hI 14 (by simp)
        show Brings Try.prog (fun v w' => Turned (fun _ => False) W w' ∧ v = bif (true && (B13 == true)) then .agg #[.int .i64 0, .int .i64 0, .string ByteArray.empty, .slice none 0 0] else undef) _
        rw [hc, cond_true]
        simp only [execOp, Act.eval, h14]
        go_simp
        show Calls Try.prog 62 _ W _
        refine (varV 0 (i64_lit _ (by omega)) W).mono ?_
        rintro e w' ⟨rfl, _, T'⟩
        exact ⟨_, rfl, T', rfl⟩
    case s7 =>
      refine fun hs hlen => stepG_guard [16, 17, 18, 14] [] (by kernel_rfl) 2 true 14 rfl rfl (by simp) true B13 (fun _ _ h => h) (fun hc => ?_) (fun hc _ _ => ?_)
      rotate_left
      · exact absurd hc (by rw [hB13]; decide)
      · intro ac W hT hI hO
        have h16 : ac.tmps.getD 16 undef = bif (true && (B13 == true)) then .agg #[.int .i64 0, .int .i64 0, .string ByteArray.empty, .slice none 0 0] else undef := hI 16 (by simp)
        rw [hc, cond_true] at h16
        have h17 : ac.tmps.getD 17 undef = bif (true && (B13 == true)) then .agg #[.int .i64 0, .int .i64 1, .string ByteArray.empty, .slice none 0 0] else undef := hI 17 (by simp)
        rw [hc, cond_true] at h17
        have h18 : ac.tmps.getD 18 undef = bif (true && (B13 == true)) then .agg #[.int .i64 0, .int .i64 0, .string ByteArray.empty, .slice none 0 0] else undef := hI 18 (by simp)
        rw [hc, cond_true] at h18
        have h14 : ac.tmps.getD 14 undef = .bool B13 := hI 14 (by simp)
        show Brings Try.prog (fun v w' => Aw13 wz (hs ++ [v]) w') _
        obtain rfl : hs = [] := List.eq_nil_of_length_eq_zero hlen
        replace hT : Turned (fun _ => False) wz W := hT
        have h16' : ac.tmps[16]?.getD undef = .agg #[.int .i64 0, .int .i64 0, .string ByteArray.empty, .slice none 0 0] := by rw [← Array.getD_eq_getD_getElem?]; exact h16
        have h17' : ac.tmps[17]?.getD undef = .agg #[.int .i64 0, .int .i64 1, .string ByteArray.empty, .slice none 0 0] := by rw [← Array.getD_eq_getD_getElem?]; exact h17
        have h18' : ac.tmps[18]?.getD undef = .agg #[.int .i64 0, .int .i64 0, .string ByteArray.empty, .slice none 0 0] := by rw [← Array.getD_eq_getD_getElem?]; exact h18
        simp only [execOp, Act.eval, h16, h17, h18, h14]
        go_simp
        refine ⟨hT.alloc _, W.heap.size, rfl, ?_⟩
        have li : ∀ n : Int, (-10 ≤ n ∧ n ≤ 10) → (leaf 0 n ByteArray.empty).In (fun _ => True) W := fun n hn => leafIn' (i64_lit _ (by omega)) (i64_lit _ (by omega)) (by unfold maxLen; decide)
        exact sl_made (w := W) (l := [leaf 0 0 ByteArray.empty, leaf 0 1 ByteArray.empty, leaf 0 0 ByteArray.empty]) ⟨li _ (by omega), li _ (by omega), li _ (by omega), trivial⟩ 3 (by decide) rfl _ rfl
    case s8 =>
      refine fun hs hlen => stepG_guard [19, 14] [] (by kernel_rfl) 2 true 14 rfl rfl (by simp) true B13 (fun _ _ h => h) (fun hc => ?_) (fun hc _ _ => ?_)
      rotate_left
      · exact absurd hc (by rw [hB13]; decide)
      · intro ac W hT hI hO
        have h19 : hs[0]? = some (ac.tmps.getD 19 undef) := hI 19 (by simp)
        have h14 : ac.tmps.getD 14 undef = .bool B13 := hI 14 (by simp)
        show Brings Try.prog (fun v w' => Aw13 wz (hs ++ [v]) w') _
        obtain ⟨v0, rfl⟩ := List.length_eq_one_iff.1 hlen
        obtain ⟨hT1, g, rfl, hsl⟩ := hT
        replace h19 : ac.tmps.getD 19 undef = .slice (some ⟨g, 0, none⟩) 3 3 := by simpa using h19.symm
        simp only [execOp, Act.eval, h19]
        go_simp
        show Calls Try.prog 37 _ W _
        refine (compV ⟨#[102]⟩ (by unfold maxLen; decide) 3 (by decide) rfl hsl).mono ?_
        rintro e w' ⟨a', c', rfl, hi, T'⟩
        exact ⟨_, rfl, hT1.trans T', .mk 2 0 ⟨#[102]⟩ (a', c') [leaf 0 0 ByteArray.empty, leaf 0 1 ByteArray.empty, leaf 0 0 ByteArray.empty], rfl, rfl, hi⟩
    case s9 =>
      refine fun hs hle => stepG_guard [15, 20, 14] [] (by kernel_rfl) 2 true 14 rfl rfl (by simp) true B13 (fun _ _ h => h) (fun hc => ?_) (fun hc _ _ => ?_)
      rotate_left
      · refine ⟨Turned.refl _ _, ?_⟩
        show undef = bif (true && (B13 == true)) then _ else undef
        rw [hc]; rfl
      · intro ac W hT hI hO
        have hle : hs.length ≤ 2 := hle
        have h15 : ac.tmps.getD 15 undef = bif (true && (B13 == true)) then .agg #[.int .i64 u.kind, .int .i64 u.n, .string u.name, .slice u.at_.1 u.args.length u.at_.2] else undef := hI 15 (by simp)
        rw [hc, cond_true] at h15
        have h20 : hs[1]? = some (ac.tmps.getD 20 undef) := hI 20 (by simp)
        have h14 : ac.tmps.getD 14 undef = .bool B13 := hI 14 (by simp)
        show Brings Try.prog (fun v w' => Turned (fun _ => False) W w' ∧ v = bif (true && (B13 == true)) then .bool true else undef) _
        rw [hc, cond_true]
        obtain ⟨z, ez, hzb, hzi⟩ := Aw13.at1 hT h20
        rw [LT.val_eq] at ez
        have Tq := Aw13.turned hs W hT
        have hgu : goodB u = true := by rw [← goodB_bare, HUP.out]; exact pT_good
        have hgz : goodB z = true := by rw [← goodB_bare, hzb]; exact pT_good
        have hsv := sameVal' (r := true) (HU.out.turned0 Tq) hzi (good_slim hgu) (good_slim hgz) (sameB_of (HUP.out.trans hzb.symm) hgu)
        simp only [execOp, Act.eval, ez, h15]
        go_simp
        show Calls Try.prog 52 _ W _
        (with_reducible refine hsv.mono ?_)
        rintro e w' ⟨rfl, T'⟩
        exact ⟨_, rfl, T', rfl⟩
    case s10 =>
      refine fun hs hle => stepG_free [14, 21] [] (by kernel_rfl) rfl ?_
      · intro ac W hT hI hO
        have hle : hs.length ≤ 2 := hle
        have h14 : ac.tmps.getD 14 undef = .bool B13 := hI 14 (by simp)
        have h21 : ac.tmps.getD 21 undef = bif (true && (B13 == true)) then .bool true else undef := hI 21 (by simp)
        show Brings Try.prog (fun v w' => Turned (fun _ => False) W w' ∧ v = .bool B22) _
        rw [HB22.out]
        cases hB : B13
        · simp only [hB] at *
          simp [execOp, Act.eval, go_sem, Brings, h14, h21]
          try exact Turned.refl _ _
        · simp only [hB] at *
          simp [execOp, Act.eval, go_sem, Brings, h14, h21]
          try exact Turned.refl _ _
    case s11 =>
      refine fun hs hle => stepG_free [22] [] (by kernel_rfl) rfl ?_
      · intro ac W hT hI hO
        have hle : hs.length ≤ 2 := hle
        have h22 : ac.tmps.getD 22 undef = .bool B22 := hI 22 (by simp)
        show Brings Try.prog (fun v w' => Turned (fun _ => False) W w' ∧ v = .bool B22) _
        simp only [execOp, Act.eval, h22]
        go_simp
        try exact ⟨Turned.refl _ _, rfl⟩
    case s12 =>
      refine fun hs hle => stepG_guard [23] [] (by kernel_rfl) 11 true 23 rfl rfl (by simp) true B22 (fun _ _ h => h) (fun hc => ?_) (fun hc _ _ => ?_)
      rotate_left
      · refine ⟨Turned.refl _ _, ?_⟩
        show undef = bif (true && (B22 == true)) then _ else undef
        rw [hc]; rfl
      · intro ac W hT hI hO
        have hle : hs.length ≤ 2 := hle
        have h23 : ac.tmps.getD 23 undef = .bool B22 := hI 23 (by simp)
        show Brings Try.prog (fun v w' => Turned (fun _ => False) W w' ∧ v = bif (true && (B22 == true)) then .agg #[.int .i64 1, .int .i64 1, .string ByteArray.empty, .slice none 0 0] else undef) _
        rw [hc, cond_true]
        simp only [execOp, Act.eval, h23]
        go_simp
        show Calls Try.prog 61 _ W _
        refine (intV 1 (i64_lit _ (by omega)) W).mono ?_
        rintro e w' ⟨rfl, _, T'⟩
        exact ⟨_, rfl, T', rfl⟩
    case s13 =>
      refine fun hs hle => stepG_guard [24, 23] [] (by kernel_rfl) 11 true 23 rfl rfl (by simp) true B22 (fun _ _ h => h) (fun hc => ?_) (fun hc _ _ => ?_)
      rotate_left
      · refine ⟨Turned.refl _ _, ?_⟩
        show undef = bif (true && (B22 == true)) then _ else undef
        rw [hc]; rfl
      · intro ac W hT hI hO
        have hle : hs.length ≤ 2 := hle
        have h24 : ac.tmps.getD 24 undef = bif (true && (B22 == true)) then .agg #[.int .i64 1, .int .i64 1, .string ByteArray.empty, .slice none 0 0] else undef := hI 24 (by simp)
        rw [hc, cond_true] at h24
        have h23 : ac.tmps.getD 23 undef = .bool B22 := hI 23 (by simp)
        show Brings Try.prog (fun v w' => Turned (fun _ => False) W w' ∧ v = bif (true && (B22 == true)) then .bool true else undef) _
        rw [hc, cond_true]
        have hgr : Calls Try.prog 73 #[.agg #[.int .i64 1, .int .i64 1, .string ByteArray.empty, .slice none 0 0]] W fun e w' => e = .returned (.bool true) ∧ Turned (fun _ => False) W w' := groundVal (p := fun _ => True) (t := leaf 1 1 ByteArray.empty) (leafIn' (i64_lit _ (by omega)) (i64_lit _ (by omega)) (by unfold maxLen; decide)) (leafSlim' _ _ _) (by kernel_rfl)
        simp only [execOp, Act.eval, h24, h23]
        go_simp
        show Calls Try.prog 73 _ W _
        (with_reducible refine hgr.mono ?_)
        rintro e w' ⟨rfl, T'⟩
        exact ⟨_, rfl, T', rfl⟩
    case s14 =>
      refine fun hs hle => stepG_free [23, 25] [] (by kernel_rfl) rfl ?_
      · intro ac W hT hI hO
        have hle : hs.length ≤ 2 := hle
        have h23 : ac.tmps.getD 23 undef = .bool B22 := hI 23 (by simp)
        have h25 : ac.tmps.getD 25 undef = bif (true && (B22 == true)) then .bool true else undef := hI 25 (by simp)
        show Brings Try.prog (fun v w' => Turned (fun _ => False) W w' ∧ v = .bool B26) _
        rw [HB26.out]
        cases hB : B22
        · simp only [hB] at *
          simp [execOp, Act.eval, go_sem, Brings, h23, h25]
          try exact Turned.refl _ _
        · simp only [hB] at *
          simp [execOp, Act.eval, go_sem, Brings, h23, h25]
          try exact Turned.refl _ _
    case s15 =>
      refine fun hs hle => stepG_free [26] [] (by kernel_rfl) rfl ?_
      · intro ac W hT hI hO
        have hle : hs.length ≤ 2 := hle
        have h26 : ac.tmps.getD 26 undef = .bool B26 := hI 26 (by simp)
        show Brings Try.prog (fun v w' => Turned (fun _ => False) W w' ∧ v = .bool B26) _
        simp only [execOp, Act.eval, h26]
        go_simp
        try exact ⟨Turned.refl _ _, rfl⟩
  case hQ =>
    intro hs vq w9 hlen hR hV
    have q0 : vq 0 = .bool B26 := hV 0 (by simp)
    rw [hB26] at q0
    have T9 := Aw13.turned hs w9 hR
    simp only [List.foldl_cons, List.foldl_nil, List.setIfInBounds_toArray, List.set_cons_zero, List.set_cons_succ, q0]
    clear hV q0 hlen hR hs
    go_wp2_with fail
    go_ret
    exact ⟨rfl, HTZ.out.trans T9⟩
end Go.Proofs.Ytoihjobdfjajfaa

/- Chapter 11's awake. -/
namespace Go.Proofs.Ytoihjobdfjajfaa
set_option linter.unusedVariables false
set_option linter.unusedSimpArgs false
open Go.RowKit Go.Maps
abbrev atA : LT := leaf 2 0 ⟨#[97]⟩
theorem leaf_slim (k n : Int) (s : ByteArray) : slim (leaf k n s) := by
  intro x hx
  simp only [leaf, Tm.flat, Tm.flats, List.mem_cons, List.not_mem_nil, or_false] at hx
  subst hx
  simp [Tm.args]
theorem atA_in {p : Nat → Prop} {w : World} : atA.In p w := leafIn' (i64_lit _ (by omega)) (i64_lit _ (by omega)) (by unfold maxLen; decide)
theorem var_in {p : Nat → Prop} {w : World} {n : Int} (h : I64 n) : (leaf 0 n ByteArray.empty).In p w := leafIn' (i64_lit _ (by omega)) h (by unfold maxLen; decide)
theorem awSetE : Tm.setE 1 (bt []) 0 atA.bare = 0 := by kernel_rfl
theorem atA_good : goodB atA.bare = true := by kernel_rfl
theorem sameB_eq {α β : Type} {a : Tm α} {b : Tm β} (h : a.bare = b.bare) (hg : goodB a.bare = true) : sameB a b = true := by
  unfold sameB
  have h1 : goodB a = true := by rw [← goodB_bare]; exact hg
  have h2 : goodB b = true := by rw [← goodB_bare, ← h]; exact hg
  rw [h1, h2, (Tm.same_iff a b).2 h]
  rfl
set_option maxRecDepth 10000 in
theorem aw_same {p : Nat → Prop} {w : World} {x : LT} (hx : x.In p w) (hb : x.bare = atA.bare) :
    Calls Try.prog 52 #[.agg #[.int .i64 x.kind, .int .i64 x.n, .string x.name, .slice x.at_.1 x.args.length x.at_.2], .agg #[.int .i64 2, .int .i64 0, .string ⟨#[97]⟩, .slice none 0 0]] w fun e w' => e = .returned (.bool true) ∧ Turned (fun _ => False) w w' :=
  sameVal' (p := p) (a := x) (b := atA) (w := w) (r := true) hx atA_in (slim_eq' hb.symm (leaf_slim _ _ _)) (leaf_slim _ _ _) (sameB_eq hb (by rw [hb]; exact atA_good))
section
variable {p : Nat → Prop} {bb sb m : Nat} {lv tv : Value} {l : TL} {w w' : World} {t : LT}
theorem aw_set (h : BI p bb sb lv tv 1 [] w) :
    Calls Try.prog 88 #[.pointer (some ⟨bb, 0, none⟩), .int .i64 0, .agg #[.int .i64 2, .int .i64 0, .string ⟨#[97]⟩, .slice none 0 0]] w fun e w' => e = .returned (.int .i64 0) ∧ ∃ tv' c y, BI p bb sb lv tv' 1 [(0, c, y)] w' ∧ y.bare = atA.bare ∧ Turned (fun k => k = sb ∨ lv.ownBlock = some k ∨ tv.ownBlock = some k) w w' := by
  refine (set88 h (t := atA) atA_in (leaf_slim _ _ _) 0 (i64_lit _ (by omega))).mono ?_
  rintro e w' ⟨rfl, ⟨tv', l', B, E, _, _⟩, T⟩
  rw [awSetE, if_pos rfl] at E
  refine ⟨by rw [awSetE], tv', ?_⟩
  have hl := congrArg List.length E
  rw [bt_length] at hl
  obtain ⟨⟨i, c, y⟩, rfl⟩ := List.length_eq_one_iff.1 hl
  simp only [bt, List.map_cons, List.map_nil, List.cons.injEq, Prod.mk.injEq, and_true] at E
  obtain ⟨rfl, e2⟩ := E
  exact ⟨c, y, B, e2, T⟩
theorem aw_walk {c : Nat} {y : LT} (h : BI p bb sb lv tv 1 [(0, c, y)] w) (hy : y.bare = atA.bare) :
    Calls Try.prog 90 #[.pointer (some ⟨bb, 0, none⟩), .agg #[.int .i64 0, .int .i64 0, .string ⟨#[]⟩, .slice none 0 0]] w fun e w' => ∃ x : LT, e = .returned x.val ∧ x.In p w' ∧ x.bare = atA.bare ∧ Turned (fun _ => False) w w' := by
  have hg : goodB (leaf 0 0 ByteArray.empty).bare = true := by kernel_rfl
  refine (walk90 h (t := leaf 0 0 ByteArray.empty) (var_in (i64_lit _ (by omega))) (Tm.good_ones' hg)).mono ?_
  rintro e w' ⟨x, rfl, hx, hb, T⟩
  refine ⟨x, rfl, hx, ?_, T⟩
  rw [hb, Tm.walkT_step h.ok (p := atA.bare) rfl (by show Tm.look [(0, y.bare)] 0 = _; rw [hy]; rfl), Tm.walkT_stop]
  intro e
  cases e
end
set_option maxRecDepth 100000 in
set_option maxHeartbeats 3200000 in
theorem awake84 (w : World) : Calls Try.prog 84 #[] w fun e w' => e = .returned (.bool true) ∧ Turned (fun _ => False) w w' := by
  go_enter Try.func84, Try.ntmps84
  go_wp2_with (first
    | (go_at_call 86; (with_reducible refine (newB86 (p := fun _ => False) _ (fun _ f => f.elim)).mono ?_); rintro e w1 ⟨rfl, B1, T1⟩; have HB1 := Lib.hid B1; clear B1)
    | (go_at_call 87; (with_reducible refine (fresh87 HB1.out (by omega)).mono ?_); rintro e w2 ⟨rfl, ⟨lv, B2, O2⟩, T2⟩; have HB2 := Lib.hid B2; have HO2 := Lib.hid O2; have HT2 := Lib.hid T2; clear B2 O2 T2)
    | (go_at_call 63; have hq := HX6.out; (with_reducible refine (atomV _ (by unfold maxLen; decide) _).mono ?_); rintro e w7 ⟨rfl, I7, T7⟩; have HX7 := Lib.hid (hq.1.turned0 T7); have HB7 := Lib.hid (hq.2.2.turned0 T7); have HT7 := Lib.hid T7; clear I7 T7 hq)
    | (go_at_call 63; (with_reducible refine (atomV _ (by unfold maxLen; decide) _).mono ?_); rintro e w3 ⟨rfl, I3, T3⟩; have HB3 := Lib.hid (HB2.out.turned0 (((Turned.refl (fun _ => False) w2).alloc (.cells #[.int .i64 0, .int .i64 0, .string ⟨#[]⟩, .slice none 0 0] 27)).trans T3)); have hbx := (T3.block w2.heap.size (by simp) (fun f => f)).trans (heap_alloc_new w2 (.cells #[.int .i64 0, .int .i64 0, .string ⟨#[]⟩, .slice none 0 0] 27)); have HBX := Lib.hid hbx; have HT3 := Lib.hid T3; clear I3 T3 hbx)
    | (go_at_call 88; (with_reducible refine (aw_set HB3.out).mono ?_); rintro e w4 ⟨rfl, tv4, c4, y4, B4, E4, T4⟩; have HB4 := Lib.hid B4; have hx4 := (T4.block w2.heap.size (Array.getElem?_eq_some_iff.1 HBX.out).1 (fun e => by have := HB2.out.own_lt w2.heap.size (e.elim (fun e => .inr (.inl e)) (fun e => .inr (.inr e))); omega)).trans HBX.out; obtain ⟨c0, c1, c2, c3, _⟩ := cells4 hx4; have HE4 := Lib.hid E4; have HT4 := Lib.hid T4; clear B4 E4 T4 hx4)
    | (go_at_call 90; (with_reducible refine (aw_walk HB4.out HE4.out).mono ?_); rintro e w6 ⟨x, rfl, hx6, hxb, T6⟩; rw [LT.val_eq]; have HX6 := Lib.hid (And.intro hx6 (And.intro hxb (HB4.out.turned0 T6))); have HT6 := Lib.hid T6; clear hx6 hxb T6)
    | (go_at_call 52; (with_reducible refine (aw_same HX7.out HX6.out.2.1).mono ?_); rintro e w8 ⟨rfl, T8⟩; have HB8 := Lib.hid (HB7.out.turned0 T8); have HT8 := Lib.hid T8; clear T8)
    | (go_at_call 111; (with_reducible refine (mark111 HB8.out).mono ?_); rintro e w9 ⟨rfl, T9⟩; have HB9 := Lib.hid (HB8.out.turned0 T9); have HT9 := Lib.hid T9; clear T9)
    | (go_at_call 107; (with_reducible refine (len107 HB9.out).mono ?_); rintro e w10 ⟨rfl, T10⟩; have HT10 := Lib.hid T10; clear T10))
  go_ret
  have hsz : w.heap.size ≤ w1.heap.size := T1.size
  have hlv : ∀ k, lv.ownBlock = some k → w.heap.size ≤ k := fun k hk => by
    rcases HO2.out with e | e
    · rw [e] at hk; simp [Value.ownBlock] at hk
    · have := e k hk; omega
  refine ⟨rfl, ?_⟩
  have R2 := T1.step HT2.out (fun i hi e => by
    rcases e with e | e
    · omega
    · simp [Value.ownBlock] at e)
  have R4 := ((R2.alloc (.cells #[.int .i64 0, .int .i64 0, .string ⟨#[]⟩, .slice none 0 0] 27)).trans HT3.out).step HT4.out (fun i hi e => by
    rcases e with e | e | e
    · omega
    · have := hlv i e; omega
    · simp [Value.ownBlock] at e)
  exact ((((R4.trans HT6.out).trans HT7.out).trans HT8.out).trans HT9.out).trans HT10.out
end Go.Proofs.Ytoihjobdfjajfaa

/- A set of binds with the blocks that it may write. -/
namespace Go.Proofs.Ytoihjobdfjajfaa
set_option linter.unusedVariables false
set_option linter.unusedSimpArgs false
open Go.RowKit Go.Maps
/-- Binds at bb; O: the blocks that are theirs. -/
structure BO (p : Nat → Prop) (bb : Nat) (O : Nat → Prop) (m : Nat) (l : TL) (w : World) : Prop where
  bi : ∃ sb lv tv, BI p bb sb lv tv m l w ∧ ∀ k, ownK bb sb lv tv k → O k
  box : ∀ b ∈ l, O b.2.1
  lt : ∀ k, O k → k < w.heap.size
  sep : ∀ k, p k → ¬ O k
section
variable {p q O O' S : Nat → Prop} {bb m : Nat} {l : TL} {w w' : World} {t : LT}
theorem BO.ok (h : BO p bb O m l w) : Tm.okT m (bt l) := by obtain ⟨sb, lv, tv, B, _⟩ := h.bi; exact B.ok
theorem BO.most (h : BO p bb O m l w) : m ≤ 65536 := by obtain ⟨sb, lv, tv, B, _⟩ := h.bi; exact B.most
theorem BO.plt (h : BO p bb O m l w) : ∀ k, p k → k < w.heap.size := by obtain ⟨sb, lv, tv, B, _⟩ := h.bi; exact fun k hk => (B.sep k hk).1
theorem BO.turned (h : BO p bb O m l w) (T : Turned S w w') (hS : ∀ k, k < w.heap.size → S k → ¬ O k ∧ ¬ p k) : BO p bb O m l w' := by
  obtain ⟨sb, lv, tv, B, hO⟩ := h.bi
  refine ⟨⟨sb, lv, tv, B.turned T (fun k hk e => ⟨fun c => (hS k hk e).1 (hO k c), fun b hb c => (hS k hk e).1 (c ▸ h.box b hb), (hS k hk e).2⟩), hO⟩, h.box, fun k hk => Nat.lt_of_lt_of_le (h.lt k hk) T.size, h.sep⟩
theorem BO.turned0 (h : BO p bb O m l w) (T : Turned (fun _ => False) w w') : BO p bb O m l w' := h.turned T (fun _ _ f => f.elim)
theorem BO.more (h : BO p bb O m l w) (hO : ∀ k, O k → O' k) (hl : ∀ k, O' k → k < w.heap.size) (hs : ∀ k, p k → ¬ O' k) : BO p bb O' m l w := by
  obtain ⟨sb, lv, tv, B, h1⟩ := h.bi
  exact ⟨⟨sb, lv, tv, B, fun k hk => hO k (h1 k hk)⟩, fun b hb => hO _ (h.box b hb), hl, hs⟩
theorem BO.wide (h : BO p bb O m l w) (hp : ∀ k, p k → q k) (hq : ∀ k, q k → k < w.heap.size ∧ ¬ O k) : BO q bb O m l w := by
  obtain ⟨sb, lv, tv, B, h1⟩ := h.bi
  exact ⟨⟨sb, lv, tv, B.wide hp (fun k hk => ⟨(hq k hk).1, fun c => (hq k hk).2 (h1 k c)⟩), h1⟩, h.box, h.lt, fun k hk => (hq k hk).2⟩
/-- What stands behind a call that may write. -/
def After (p : Nat → Prop) (bb : Nat) (O : Nat → Prop) (m : Nat) (l : TL) (w w' : World) : Prop :=
  ∃ O' : Nat → Prop, BO p bb O' m l w' ∧ (∀ k, O' k → k < w.heap.size → O k) ∧ Turned O w w'
theorem After.turned0 {w2 : World} (h : After p bb O m l w w') (T : Turned (fun _ => False) w' w2) : After p bb O m l w w2 := by
  obtain ⟨O', h1, h2, h3⟩ := h
  exact ⟨O', h1.turned0 T, h2, h3.trans (T.mono (fun _ _ f => f.elim))⟩
/-- Two calls one behind the other. -/
theorem After.trans {m' m2 : Nat} {l' l2 : TL} {w2 : World} (h : After p bb O m' l' w w') (h2 : ∀ O', BO p bb O' m' l' w' → After p bb O' m2 l2 w' w2) : After p bb O m2 l2 w w2 := by
  obtain ⟨O', a1, a2, a3⟩ := h
  obtain ⟨O2, b1, b2, b3⟩ := h2 O' a1
  refine ⟨O2, b1, fun k hk hl => a2 k (b2 k hk (Nat.lt_of_lt_of_le hl a3.size)) hl, a3.step b3 (fun i hi e => a2 i e hi)⟩
theorem newO86 {p : Nat → Prop} (w : World) (hp : ∀ k, p k → k < w.heap.size) :
    Calls Try.prog 86 #[] w fun e w' => ∃ bb, e = .returned (.pointer (some ⟨bb, 0, none⟩)) ∧ BO p bb (fun k => w.heap.size ≤ k ∧ k < w'.heap.size) 0 [] w' ∧ w.heap.size ≤ bb ∧ Turned (fun _ => False) w w' := by
  refine (newB86 w hp).mono ?_
  rintro e w' ⟨rfl, B, T⟩
  refine ⟨_, rfl, ⟨⟨_, _, _, B, fun k hk => ⟨?_, B.own_lt k hk⟩⟩, fun b hb => (by cases hb), fun k hk => hk.2, fun k hk c => by have := hp k hk; omega⟩, by omega, T⟩
  rcases hk with e | e | e | e
  · omega
  · omega
  · simp [Value.ownBlock] at e
  · simp [Value.ownBlock] at e
theorem freshO87 (h : BO p bb O m l w) (hm : m < 65536) :
    Calls Try.prog 87 #[.pointer (some ⟨bb, 0, none⟩)] w fun e w' => e = .returned (.tuple #[.agg #[.int .i64 0, .int .i64 (m : Int), .string ByteArray.empty, .slice none 0 0], .bool true]) ∧ After p bb O (m + 1) l w w' := by
  obtain ⟨sb, lv, tv, B, hO⟩ := h.bi
  refine (fresh87 B hm).mono ?_
  rintro e w' ⟨rfl, ⟨lv', B', ho⟩, T⟩
  have hold : ∀ k, ownK bb sb lv' tv k → k < w.heap.size → ownK bb sb lv tv k := fun k hk hl => by
    rcases hk with e | e | e | e
    · exact .inl e
    · exact .inr (.inl e)
    · rcases ho with ho | ho
      · exact .inr (.inr (.inl (ho ▸ e)))
      · have := ho k e; omega
    · exact .inr (.inr (.inr e))
  refine ⟨rfl, fun k => ownK bb sb lv' tv k ∨ (O k ∧ k < w.heap.size), ⟨⟨sb, lv', tv, B', fun k hk => .inl hk⟩, fun b hb => .inr ⟨h.box b hb, h.lt _ (h.box b hb)⟩, fun k hk => hk.elim (B'.own_lt k) (fun e => Nat.lt_of_lt_of_le e.2 T.size), fun k hk c => ?_⟩, fun k hk hl => hk.elim (fun c => hO k (hold k c hl)) (fun e => e.1), T.mono (fun k _ e => hO k (e.elim .inl (fun e => .inr (.inr (.inl e)))))⟩
  rcases c with c | c
  · exact (B'.sep k hk).2 c
  · exact h.sep k hk c.1
theorem setO88 (h : BO p bb O m l w) (ht : t.In p w) (hs : slim t) (n : Int) (h64 : I64 n) :
    Calls Try.prog 88 #[.pointer (some ⟨bb, 0, none⟩), .int .i64 n, t.val] w fun e w' => e = .returned (.int .i64 (Tm.setE m (bt l) n t.bare)) ∧ ∃ l', bt l' = (if Tm.setE m (bt l) n t.bare = 0 then (n, t.bare) :: bt l else bt l) ∧ After p bb O m l' w w' := by
  obtain ⟨sb, lv, tv, B, hO⟩ := h.bi
  refine (set88 B ht hs n h64).mono ?_
  rintro e w' ⟨rfl, ⟨tv', l', B', hbt, ho, hb⟩, T⟩
  have hold : ∀ k, ownK bb sb lv tv' k → k < w.heap.size → ownK bb sb lv tv k := fun k hk hl => by
    rcases hk with e | e | e | e
    · exact .inl e
    · exact .inr (.inl e)
    · exact .inr (.inr (.inl e))
    · rcases ho with ho | ho
      · exact .inr (.inr (.inr (ho ▸ e)))
      · have := ho k e; omega
  refine ⟨rfl, l', hbt, fun k => ownK bb sb lv tv' k ∨ (O k ∧ k < w.heap.size) ∨ (w.heap.size ≤ k ∧ k < w'.heap.size), ⟨⟨sb, lv, tv', B', fun k hk => .inl hk⟩, fun b hbl => ?_, fun k hk => ?_, fun k hk c => ?_⟩, fun k hk hl => ?_, T.mono (fun k _ e => hO k (e.elim (fun e => .inr (.inl e)) (fun e => .inr (.inr e))))⟩
  · rcases hb b hbl with e | e
    · exact .inr (.inl ⟨h.box b e, h.lt _ (h.box b e)⟩)
    · exact .inr (.inr ⟨e, (Array.getElem?_eq_some_iff.1 (B'.terms b hbl).1).1⟩)
  · rcases hk with e | e | e
    · exact B'.own_lt k e
    · exact Nat.lt_of_lt_of_le e.2 T.size
    · exact e.2
  · rcases c with c | c | c
    · exact (B'.sep k hk).2 c
    · exact h.sep k hk c.1
    · have := (B.sep k hk).1; omega
  · rcases hk with e | e | e
    · exact hO k (hold k e hl)
    · exact e.1
    · omega
theorem walkO90 (h : BO p bb O m l w) (ht : t.In p w) (hg : ∀ z ∈ t.bare.flat, goodOneB z = true) :
    Calls Try.prog 90 #[.pointer (some ⟨bb, 0, none⟩), t.val] w fun e w' => ∃ x : LT, e = .returned x.val ∧ x.In p w' ∧ x.bare = Tm.walkT (bt l) t.bare ∧ Turned (fun _ => False) w w' := by
  obtain ⟨sb, lv, tv, B, hO⟩ := h.bi
  exact walk90 B ht hg
theorem wholeO89 (h : BO p bb O m l w) (ht : t.In p w) (hs : slim t) :
    Calls Try.prog 89 #[.pointer (some ⟨bb, 0, none⟩), t.val] w fun e w' => ∃ u : LT, e = .returned (.tuple #[u.val, .int .i64 (wholeE m (bt l) t.bare)]) ∧ u.bare = wholeT m (bt l) t.bare ∧ u.In (fun k => p k ∨ w.heap.size ≤ k) w' ∧ Turned (fun _ => False) w w' := by
  obtain ⟨sb, lv, tv, B, hO⟩ := h.bi
  exact whole89 B ht hs
theorem markO111 (h : BO p bb O m l w) : Calls Try.prog 111 #[.pointer (some ⟨bb, 0, none⟩)] w fun e w' => e = .returned (.int .i64 l.length) ∧ Turned (fun _ => False) w w' := by
  obtain ⟨sb, lv, tv, B, hO⟩ := h.bi
  exact mark111 B
theorem lenO107 (h : BO p bb O m l w) : Calls Try.prog 107 #[.pointer (some ⟨bb, 0, none⟩)] w fun e w' => e = .returned (.int .i64 m) ∧ Turned (fun _ => False) w w' := by
  obtain ⟨sb, lv, tv, B, hO⟩ := h.bi
  exact len107 B
end
end Go.Proofs.Ytoihjobdfjajfaa

/- The stack of int64: Clone, Reverse, clear, Undo. (Turned from the texts of chapter 4.) -/
namespace Go.Proofs.Ytoihjobdfjajfaa
open Go.RowKit
set_option linter.unusedVariables false
set_option linter.unusedSimpArgs false
/-- A store into an element of a row of one cell each. -/
theorem Row.stored {w : World} {e : TypeId} {n g cap : Nat} {xs : List Value} (h : Row w e 1 (.slice (some ⟨g, 0, none⟩) n cap) n xs) {i : Nat} (hi : i < n) (u : Value) :
    Row (w.setCell ⟨g, i, none⟩ u) e 1 (.slice (some ⟨g, 0, none⟩) n cap) n (xs.set i u) := by
  refine ⟨by simpa using h.1, .inr ?_⟩
  rcases h.2 with ⟨e, _⟩ | ⟨g', c, cur, e, hg, h1, h2, h3, h4⟩
  · cases e
  · injection e with e1 _ e3; injection e1 with e1; injection e1 with e1; subst e1; subst e3
    refine ⟨g, cap, cur.setIfInBounds i u, rfl, ?_, h1, h2, by simpa using h3, ?_⟩
    · simp only [World.setCell, Array.getElem?_modify]
      simp [hg]
    · simp only [Array.toList_setIfInBounds]
      rw [← h4, Nat.mul_one, List.take_set]

/-- Cells from place m on are written over; the first m stay. -/
theorem Row.over {w w' : World} {e : TypeId} {n g cap m : Nat} {xs : List Value} (h : Row w e 1 (.slice (some ⟨g, 0, none⟩) n cap) n xs) (hm : m ≤ n)
    (hw : ∃ cur cur' : Array Value, w.heap[g]? = some (.cells cur e (0, 0)) ∧ w'.heap[g]? = some (.cells cur' e (0, 0)) ∧ cur'.size = cur.size ∧ cur'.toList.take m = cur.toList.take m) :
    Row w' e 1 (.slice (some ⟨g, 0, none⟩) m cap) m (xs.take m) := by
  obtain ⟨cur, cur', q1, q2, q3, q4⟩ := hw
  rcases h.2 with ⟨e, _⟩ | ⟨g', c, cu, e, hg, h1, h2, h3, h4⟩
  · cases e
  · injection e with e1 _ e3; injection e1 with e1; injection e1 with e1; subst e1; subst e3
    rw [q1] at hg; injection hg with hg; injection hg with hg; subst hg
    refine ⟨?_, .inr ⟨g, cap, cur', rfl, q2, by omega, h2, by rw [q3]; exact h3, ?_⟩⟩
    · rw [List.length_take, h.1]; omega
    · rw [Nat.mul_one, q4, ← h4, List.take_take, Nat.mul_one, Nat.min_eq_left hm]

/-- A stack in memory: its struct in block sb (type st), what is on it in the row of lv (elements of type e, one cell each). -/
structure Stk {α : Type} (st e : TypeId) (enc : α → Value) (w : World) (B sb room : Nat) (lv : Value) (l : List α) : Prop where
  base : B ≤ sb
  baseR : ∀ k, lv.ownBlock = some k → B ≤ k
  blk : w.heap[sb]? = some (.cells #[.int .i64 room, lv] st (0, 0))
  row : Row w e 1 lv l.length (l.map enc)
  apart : lv.ownBlock ≠ some sb
  room1 : 1 ≤ room
  room2 : room ≤ 65536
  len : l.length ≤ room

/-- The stack's own blocks. -/
def Mine2 (sb : Nat) (lv : Value) (k : Nat) : Prop := k = sb ∨ lv.ownBlock = some k

theorem rec2_cells {w : World} {sb : Nat} {r : Int} {lv : Value} {st : TypeId} (h : w.heap[sb]? = some (.cells #[.int .i64 r, lv] st (0, 0))) :
    w.cell? ⟨sb, 0, none⟩ = some (.int .i64 r) ∧ w.cell? ⟨sb, 1, none⟩ = some lv ∧ w.frozen? ⟨sb, 1, none⟩ = false :=
  ⟨by rw [cell_of_row w sb 0 _ st (0, 0) h]; rfl, by rw [cell_of_row w sb 1 _ st (0, 0) h]; rfl, frozen_of_row w sb 1 _ st h⟩
theorem rec2_set {w : World} {sb : Nat} {r : Int} {lv : Value} {st : TypeId} (h : w.heap[sb]? = some (.cells #[.int .i64 r, lv] st (0, 0))) (u : Value) :
    (w.setCell ⟨sb, 1, none⟩ u).heap[sb]? = some (.cells #[.int .i64 r, u] st (0, 0)) := by
  simp only [World.setCell, Array.getElem?_modify]
  simp [h]

section
variable {α : Type} {st e : TypeId} {enc : α → Value} {w : World} {B sb room : Nat} {lv : Value} {l : List α}
theorem Stk.turned {S : Nat → Prop} {w' : World} (h : Stk st e enc w B sb room lv l) (ht : Turned S w w') (hS : ∀ k, S k → ¬ Mine2 sb lv k) : Stk st e enc w' B sb room lv l :=
  ⟨h.base, h.baseR, (ht.block sb (Array.getElem?_eq_some_iff.1 h.blk).1 (fun s => hS sb s (.inl rfl))).trans h.blk, h.row.turned ht (fun k e s => hS k s (.inr e)), h.apart, h.room1, h.room2, h.len⟩
theorem Stk.turned0 {w' : World} (h : Stk st e enc w B sb room lv l) (ht : Turned (fun _ => False) w w') : Stk st e enc w' B sb room lv l := h.turned ht (fun _ x => False.elim x)
theorem Stk.fresh (h : Stk st e enc w B sb room lv l) : ∀ k, Mine2 sb lv k → B ≤ k := by
  rintro k (rfl | e)
  · exact h.base
  · exact h.baseR k e
theorem Stk.old (h : Stk st e enc w B sb room lv l) : ∀ k, Mine2 sb lv k → k < w.heap.size := by
  rintro k (rfl | e)
  · exact (Array.getElem?_eq_some_iff.1 h.blk).1
  · exact h.row.lt k e
theorem Turned.of_mine2 {w1 w2 : World} (h : Turned (fun _ => False) w w1) (ht : Turned (Mine2 sb lv) w1 w2) (hf : ∀ k, Mine2 sb lv k → w.heap.size ≤ k) : Turned (fun _ => False) w w2 :=
  h.step ht (fun i hi hm => by have := hf i hm; omega)
theorem apart_moved2 {lv' v : Value} (h : ∀ k, v.ownBlock = some k → ¬ Mine2 sb lv k) (hv : ∀ k, v.ownBlock = some k → k < w.heap.size)
    (hm : lv'.ownBlock = lv.ownBlock ∨ ∃ g, lv'.ownBlock = some g ∧ w.heap.size ≤ g) : ∀ k, v.ownBlock = some k → ¬ Mine2 sb lv' k := by
  rintro k e (rfl | e')
  · exact h k e (.inl rfl)
  · rcases hm with hm | ⟨g, hg, hle⟩
    · exact h k e (.inr (by rw [← hm]; exact e'))
    · have := hv k e
      rw [e'] at hg
      injection hg with hg
      omega
end
abbrev StkI := Stk (α := Int) 209 2 (Value.int .i64)
theorem onesI (l : List Int) : ∀ x ∈ l.map (Value.int .i64), x.oneCell' = true := by intro x hx; obtain ⟨_, _, rfl⟩ := List.mem_map.1 hx; rfl
theorem stkInfoI : (Try.prog.info? 2).map (fun i => (i.zero, i.size, i.bytes)) = some (some (.int .i64 0), 1, 8) := by kernel_rfl

/-- What stands at place p when k rounds of the reversing are over. -/
def revAtI (xs : List Int) (k p : Nat) : Option Int := if p < k ∨ xs.length - k ≤ p then xs[xs.length - 1 - p]? else xs[p]?

theorem rev_stepI {xs ys : List Int} {k y : Nat} {p q : Int} (hl : ys.length = xs.length) (hy : y + k + 1 = xs.length) (hky : k < y) (hys : ∀ r, r < xs.length → ys[r]? = revAtI xs k r) (hp : ys[k]? = some p) (hq : ys[y]? = some q) :
    ∀ r, r < xs.length → ((ys.set k q).set y p)[r]? = revAtI xs (k + 1) r := by
  intro r hr
  have hk := hys k (by omega)
  have hy' := hys y (by omega)
  rw [hp] at hk
  rw [hq] at hy'
  unfold revAtI at hk hy' ⊢
  rw [if_neg (by omega)] at hk hy'
  by_cases e1 : r = y
  · subst e1
    rw [List.getElem?_set_self (by simp; omega), if_pos (by omega), show xs.length - 1 - r = k from by omega]
    exact hk
  · rw [List.getElem?_set_ne (by omega)]
    by_cases e2 : r = k
    · subst e2
      rw [List.getElem?_set_self (by omega), if_pos (by omega), show xs.length - 1 - r = y from by omega]
      exact hy'
    · rw [List.getElem?_set_ne (by omega), hys r hr]
      unfold revAtI
      by_cases hc : r < k ∨ xs.length - k ≤ r
      · rw [if_pos hc, if_pos (by omega)]
      · rw [if_neg hc, if_neg (by omega)]

theorem rev_endI {xs ys : List Int} {k : Nat} (hl : ys.length = xs.length) (hk1 : 2 * k ≤ xs.length + 1) (hk2 : xs.length ≤ 2 * k + 1) (hys : ∀ r, r < xs.length → ys[r]? = revAtI xs k r) : ys = xs.reverse := by
  apply List.ext_getElem?
  intro r
  by_cases hr : r < xs.length
  · rw [hys r hr, List.getElem?_reverse hr]
    unfold revAtI
    split
    · rfl
    · rw [show xs.length - 1 - r = r from by omega]
  · rw [List.getElem?_eq_none (by omega), List.getElem?_eq_none (by simp; omega)]

set_option maxHeartbeats 1000000 in
theorem revI {w : World} {v : Value} {xs : List Int} (h : Row w 2 1 v xs.length (xs.map (Value.int .i64))) (hn : xs.length ≤ 65536) :
    Calls Try.prog 172 #[v] w fun e w' => e = .returned (.tuple #[]) ∧ Row w' 2 1 v xs.length (xs.map (Value.int .i64)).reverse ∧ Turned (fun k => v.ownBlock = some k) w w' := by
  obtain ⟨a, cap, rfl⟩ := h.shape
  go_enter Try.func172, Try.ntmps172
  go_wp2
  go_loopw [2, 3] (fun i j wr => ∃ (k : Nat) (x : Int), 2 * k ≤ xs.length + 1 ∧ i = .int .i64 k ∧ j = .int .i64 x ∧ x + k + 1 ≤ xs.length ∧ (xs.length : Int) ≤ x + k + 1 ∧ (∃ ys : List Int, Row wr 2 1 (.slice a xs.length cap) xs.length (ys.map (Value.int .i64)) ∧ ∀ p, p < xs.length → ys[p]? = revAtI xs k p) ∧ Turned (fun k => (Value.slice a xs.length cap).ownBlock = some k) w wr) (fun i j _ => (intOf j - intOf i + 1).toNat)
  case atStart => exact ⟨0, _, by omega, rfl, rfl, by omega, by omega, ⟨xs, h, fun p hp => by simp [revAtI]; omega⟩, Turned.refl _ _⟩
  case round =>
    obtain ⟨k, x, hk, rfl, rfl, hx1, hx2, ⟨ys, hrow, hys⟩, hT⟩ := hrel
    have hl : ys.length = xs.length := by have := hrow.1; simpa using this
    by_cases hlt : 2 * k + 1 < xs.length
    · obtain ⟨y, rfl⟩ : ∃ y : Nat, x = y := ⟨x.toNat, by omega⟩
      have hky : k < y := by omega
      have hne : ¬ k = y := by omega
      have hne2 : ¬ y = k := by omega
      have hyn : y < xs.length := by omega
      have hkn : k < xs.length := by omega
      obtain ⟨p, hp⟩ : ∃ p, ys[k]? = some p := ⟨_, List.getElem?_eq_getElem (by omega)⟩
      obtain ⟨q, hq⟩ : ∃ q, ys[y]? = some q := ⟨_, List.getElem?_eq_getElem (by omega)⟩
      obtain ⟨g, cap3, hgc⟩ := hrow.shape_pos (by omega)
      injection hgc with q1 _ q2
      subst q1; subst q2
      have cp := hrow.cells rfl k ((Value.int .i64) p) (by rw [List.getElem?_map, hp]; rfl)
      have cq := hrow.cells rfl y ((Value.int .i64) q) (by rw [List.getElem?_map, hq]; rfl)
      have fk := hrow.free rfl k
      have fy := hrow.free rfl y
      have hst := Lib.hid (rev_stepI hl (y := y) (by omega) hky hys hp hq)
      have hr2 := (hrow.stored (i := k) hkn ((Value.int .i64) q)).stored (i := y) hyn ((Value.int .i64) p)
      rw [← List.map_set, ← List.map_set] at hr2
      have HR2 := Lib.hid hr2
      clear hp hq hys hr2
      go_wp2_with fail
      go_region
      all_goals
        go_wp2_with fail
        go_roundw
        case rel => exact ⟨k + 1, (y : Int) - 1, by omega, by go_num, rfl, by omega, by omega, ⟨_, HR2.out, hst.out⟩, ((hT.setCell (p := ⟨g, k, none⟩) (.inr rfl) _).setCell (p := ⟨g, y, none⟩) (.inr rfl) _).drew⟩
        case measure => (simp [intOf]; try omega)
    · have hge : ¬ ((k : Int) < x) := by omega
      have he := rev_endI hl hk (by omega) hys
      clear hys
      have HE := Lib.hid he
      clear he
      go_wp2
      go_end0
      exact ⟨rfl, by rw [← List.map_reverse, ← HE.out]; exact hrow, hT⟩

/-- Cells of a block are written over from place m on. -/
theorem setCells_blk (b : Nat) (e : TypeId) (m : Nat) : ∀ (vs : List Value) (o : Nat) (w : World) (cur : Array Value), m ≤ o → w.heap[b]? = some (.cells cur e (0, 0)) → ∃ cur' : Array Value, (w.setCells b o vs).heap[b]? = some (.cells cur' e (0, 0)) ∧ cur'.size = cur.size ∧ cur'.toList.take m = cur.toList.take m
  | [], o, w, cur, _, h => ⟨cur, h, rfl, rfl⟩
  | v :: r, o, w, cur, ho, h => by
    have h1 : (w.setCell ⟨b, o, none⟩ v).heap[b]? = some (.cells (cur.setIfInBounds o v) e (0, 0)) := by
      simp only [World.setCell, Array.getElem?_modify]; simp [h]
    obtain ⟨cur', q1, q2, q3⟩ := setCells_blk b e m r (o + 1) _ _ (by omega) h1
    refine ⟨cur', q1, by rw [q2]; simp, ?_⟩
    rw [q3, Array.toList_setIfInBounds, List.take_set_of_le ho]

theorem setCells_turned (b : Nat) : ∀ (vs : List Value) (o : Nat) (w : World), Turned (· = b) w (w.setCells b o vs)
  | [], _, w => Turned.refl _ _
  | v :: r, o, w => ((Turned.refl (· = b) w).setCell (p := ⟨b, o, none⟩) (.inr rfl) v).trans (setCells_turned b r (o + 1) _)

/-- clear(s[m:]) where s is a row, the run. -/
theorem run_clear_row {P : Program} {w : World} {t e ty : TypeId} {z : Value} (ht : P.underlying t = some (.slice e)) (hv : ∀ w, (zeroValue e).run P w = .ok z w) (hz : z.cells = #[z]) (h1 : z.oneCell' = true)
    {g n cap m c k : Nat} {xs : List Value} (h : Row w e 1 (.slice (some ⟨g, 0, none⟩) n cap) n xs) (hk : m + k = n) :
    ∃ w', (Builtin.clear_ #[t] ty #[.slice (some ⟨g, m, none⟩) k c]).run P w = .ok (.tuple #[]) w' ∧ Row w' e 1 (.slice (some ⟨g, 0, none⟩) m cap) m (xs.take m) ∧ Turned (· = g) w w' := by
  rcases h.2 with ⟨e, _⟩ | ⟨g', cp, cur, e, hg, q1, q2, q3, q4⟩
  · cases e
  · injection e with e1 _ e3; injection e1 with e1; injection e1 with e1; subst e1; subst e3
    by_cases h0 : k = 0
    · subst h0
      refine ⟨w, ?_, ?_, Turned.refl _ _⟩
      · simp [Builtin.clear_, run_underlying ht]
      · exact h.over (by omega) ⟨cur, cur, hg, hg, rfl, rfl⟩
    · obtain ⟨cur', r1, r2, r3⟩ := setCells_blk g e m (List.replicate k z) m w cur (Nat.le_refl _) hg
      have hc : ∀ j, j < k → (w.cell? ⟨g, m + j, none⟩).isSome = true := by
        intro j hj
        rw [cell_of_row w g (m + j) cur e (0, 0) hg]
        simp
        omega
      refine ⟨_, Lib.run_clear_slice w t e ty z ht hv hz h1 g m k c (by omega) hc (fun j _ => frozen_of_row w g _ cur e hg), ?_, setCells_turned g _ _ w⟩
      exact h.over (by omega) ⟨cur, cur', hg, r1, r2, r3⟩

theorem clear_row {P : Program} (w : World) {ops : Array Oper} {rest : List Oper} {o : Oper} {a : Act} {Q : Exit → Act → World → Prop} (hgd : o.guard = none) (s : Operand) (t : TypeId)
    (ho : o.op = .call { callee := .builtin .clear, args := #[s], argTypes := #[t] })
    (e : TypeId) (z : Value) (ht : P.underlying t = some (.slice e)) (hv : ∀ w, (zeroValue e).run P w = .ok z w) (hz : z.cells = #[z]) (h1 : z.oneCell' = true)
    (g n cap m c k : Nat) (xs : List Value) (h : Row w e 1 (.slice (some ⟨g, 0, none⟩) n cap) n xs) (hk : m + k = n) (hs : a.eval s = .slice (some ⟨g, m, none⟩) k c)
    (hK : ∀ w', Row w' e 1 (.slice (some ⟨g, 0, none⟩) m cap) m (xs.take m) → Turned (· = g) w w' → wpList P ops Q rest (a.put o.dst (.tuple #[])) w') : wpList P ops Q (o :: rest) a w := by
  refine wpList_plain hgd fun K hK' => ?_
  obtain ⟨w', hr, h2, h3⟩ := run_clear_row (P := P) (ty := o.type) ht hv hz h1 (c := c) h hk
  unfold Oper.wp execOp
  simp only [ho, resolve, invoke, builtin, Sem.run_bind, Sem.run_pure, Result.andThen_ok, List.map_toArray, List.map_cons, List.map_nil, hs, hr]
  exact hK' _ _ (hK w' h2 h3)

/-- clear of no element. -/
theorem clear_none {P : Program} (w : World) {ops : Array Oper} {rest : List Oper} {o : Oper} {a : Act} {Q : Exit → Act → World → Prop} (hgd : o.guard = none) (s : Operand) (t : TypeId)
    (ho : o.op = .call { callee := .builtin .clear, args := #[s], argTypes := #[t] }) (e : TypeId) (ht : P.underlying t = some (.slice e)) (ao : Option Addr) (k c : Nat) (hk0 : k = 0) (hs : a.eval s = .slice ao k c)
    (hK : wpList P ops Q rest (a.put o.dst (.tuple #[])) w) : wpList P ops Q (o :: rest) a w := by
  subst hk0
  refine wpList_plain hgd fun K hK' => ?_
  have hr : (Builtin.clear_ #[t] o.type #[.slice ao 0 c]).run P w = .ok (.tuple #[]) w := by
    cases ao <;> simp [Builtin.clear_, run_underlying ht]
  unfold Oper.wp execOp
  simp only [ho, resolve, invoke, builtin, Sem.run_bind, Sem.run_pure, Result.andThen_ok, List.map_toArray, List.map_cons, List.map_nil, hs, hr]
  exact hK' _ _ hK

theorem zeroVI (w : World) : (zeroValue 2).run Try.prog w = .ok (.int .i64 0) w := by kernel_rfl

set_option maxHeartbeats 400000 in
theorem stkCloneI_some {w : World} {ad : Addr} {n cap : Nat} {xs : List Value} (hl : xs.length = n * 1) (hcells : ∀ j u, xs[j]? = some u → w.cell? (ad.add j) = some u) (hx : ∀ x ∈ xs, x.oneCell' = true) (hn : n ≤ 65536) :
    Calls Try.prog 171 #[.slice (some ad) n cap] w fun e w' => ∃ v, e = .returned v ∧ Row w' 2 1 v n xs ∧ (∀ k, v.ownBlock = some k → w.heap.size ≤ k) ∧ Turned (fun _ => False) w w' := by
  obtain ⟨i0, hi0, hz0, hz1, hz2⟩ := info_parts stkInfoI
  have hnil := fun (w : World) (a : Option Addr) (n c : Nat) => Lib.run_eql_slice_nil (P := Try.prog) w 24 2 a n c 0 0 Try.underlying24
  have hc' : ∀ o : Obj, ∀ j u, xs[j]? = some u → (w.alloc o).cell? (ad.add j) = some u := fun o j u h => cell_old (hcells j u h)
  have HC := Lib.hid hc'
  clear hcells hc'
  go_enter Try.func171, Try.ntmps171
  go_wp2_with (first
    | (at_builtin; refine append_row _ rfl _ _ 24 rfl 2 i0 (.int .i64 0) 1 8 Try.underlying24 hi0 hz0 hz1 hz2 rfl (by decide) _ _ _ rfl (Row.made _ 2 1 #[] 0 rfl (by simp)) ad n cap xs rfl hl (HC.out _) hx (by unfold maxLen; omega) (by omega) ?_; intro v2 w2 hown2 hg2 hl2 _))
  go_ret
  refine ⟨_, rfl, by simpa using hown2, ?_, ((Turned.refl (fun _ => False) w).alloc (.cells #[] 2)).step hg2 ?_⟩
  · intro k hk
    change v2.ownBlock = some k at hk
    rcases hl2 with e | e
    · rw [hk] at e; simp [Value.ownBlock, Act.eval] at e; omega
    · rw [hk] at e; simp at e; omega
  · intro k hk1 hk
    simp [Value.ownBlock, Act.eval] at hk
    omega

set_option maxHeartbeats 400000 in
theorem stkCloneI_nil (w : World) :
    Calls Try.prog 171 #[.slice none 0 0] w fun e w' => e = .returned (.slice none 0 0) ∧ w = w' := by
  have hnil := fun (w : World) (a : Option Addr) (n c : Nat) => Lib.run_eql_slice_nil (P := Try.prog) w 24 2 a n c 0 0 Try.underlying24
  go_enter Try.func171, Try.ntmps171
  go_wp2
  go_ret
  exact ⟨rfl, rfl⟩

/-- Clone of a slice of whatever make. -/
theorem stkCloneI {w : World} {ao : Option Addr} {n cap : Nat} {xs : List Value} (hnone : ao = none → n = 0 ∧ cap = 0) (hl : xs.length = n) (hcells : ∀ ad, ao = some ad → ∀ j u, xs[j]? = some u → w.cell? (ad.add j) = some u) (hx : ∀ x ∈ xs, x.oneCell' = true) (hn : n ≤ 65536) :
    Calls Try.prog 171 #[.slice ao n cap] w fun e w' => ∃ v, e = .returned v ∧ Row w' 2 1 v n xs ∧ (∀ k, v.ownBlock = some k → w.heap.size ≤ k) ∧ Turned (fun _ => False) w w' := by
  cases ao with
  | some ad => exact stkCloneI_some (by rw [Nat.mul_one]; exact hl) (hcells ad rfl) hx hn
  | none =>
    obtain ⟨rfl, rfl⟩ := hnone rfl
    have : xs = [] := List.eq_nil_of_length_eq_zero hl
    subst this
    exact (stkCloneI_nil w).mono fun e w' ⟨he, hw⟩ => hw ▸ ⟨_, he, Row.nil _ _ _, by simp [Value.ownBlock], Turned.refl _ _⟩

set_option maxHeartbeats 400000 in
theorem stkUndoI_no {w : World} {B sb room : Nat} {lv : Value} {l : List Int} (h : StkI w B sb room lv l) (n : Int) (hn : n < 0 ∨ (l.length : Int) < n) :
    Calls Try.prog 151 #[.pointer (some ⟨sb, 0, none⟩), .int .i64 n] w fun e w' => e = .returned (.tuple #[.slice none 0 0, .bool false]) ∧ w = w' := by
  obtain ⟨a, cap, rfl⟩ := h.row.shape
  have hr := h.room2
  have hl := h.len
  obtain ⟨c0, c1, _⟩ := rec2_cells h.blk
  clear h
  by_cases h0 : n < 0
  · go_enter Try.func151, Try.ntmps151
    go_wp2

    go_ret2
    exact ⟨rfl, rfl⟩
  · have h1 : (l.length : Int) < n := by omega
    have h2 : 0 ≤ n := by omega
    clear hn h0
    go_enter Try.func151, Try.ntmps151
    go_wp2

    go_ret2
    exact ⟨rfl, rfl⟩

theorem undo_closeI {w w1 w2 : World} {B sb room cap g n : Nat} {l : List Int} (h : StkI w B sb room (.slice (some ⟨g, 0, none⟩) l.length cap) l) (hn : n ≤ l.length)
    (T1 : Turned (fun _ => False) w w1) (T2 : Turned (· = g) w1 w2) (hrow : Row w2 2 1 (.slice (some ⟨g, 0, none⟩) n cap) n ((l.map (Value.int .i64)).take n)) :
    StkI (w2.setCell ⟨sb, 1, none⟩ (.slice (some ⟨g, 0, none⟩) n cap)) B sb room (.slice (some ⟨g, 0, none⟩) n cap) (l.take n) ∧ Turned (Mine2 sb (.slice (some ⟨g, 0, none⟩) l.length cap)) w (w2.setCell ⟨sb, 1, none⟩ (.slice (some ⟨g, 0, none⟩) n cap)) := by
  have hgs : g ≠ sb := fun e => h.apart (by rw [e]; rfl)
  have lsb := (Array.getElem?_eq_some_iff.1 h.blk).1
  have hl := h.len
  have hlen : (l.take n).length = n := by rw [List.length_take]; omega
  have blk2 := (T2.block sb (Nat.lt_of_lt_of_le lsb T1.size) (fun e => hgs e.symm)).trans ((T1.block sb lsb (fun f => f)).trans h.blk)
  refine ⟨⟨h.base, fun k hk => h.baseR k hk, rec2_set blk2 _, ?_, by simp [Value.ownBlock]; exact hgs, h.room1, h.room2, by omega⟩, ?_⟩
  · rw [hlen, List.map_take]
    exact hrow.setCell (p := ⟨sb, 1, none⟩) (by simp [Value.ownBlock]; exact hgs) _
  · exact Turned.setCell (((T1.mono (fun _ _ f => f.elim))).step (T := (· = g)) T2 (fun i _ e => .inr (by rw [e]; rfl))) (.inr (.inl rfl)) _

set_option maxHeartbeats 1000000 in
theorem stkUndoI_some {w : World} {B sb room g cap : Nat} {l : List Int} (h : StkI w B sb room (.slice (some ⟨g, 0, none⟩) l.length cap) l) (n : Nat) (hn : n ≤ l.length) :
    Calls Try.prog 151 #[.pointer (some ⟨sb, 0, none⟩), .int .i64 n] w fun e w' => ∃ v lv', e = .returned (.tuple #[v, .bool true]) ∧ Row w' 2 1 v (l.length - n) ((l.drop n).map (Value.int .i64)).reverse ∧ (∀ k, v.ownBlock = some k → w.heap.size ≤ k) ∧
      StkI w' B sb room lv' (l.take n) ∧ lv'.ownBlock = some g ∧ Turned (Mine2 sb (.slice (some ⟨g, 0, none⟩) l.length cap)) w w' := by
  have hk := Lib.hid h
  have hr := h.room2
  have hl := h.len
  obtain ⟨c0, c1, f1⟩ := rec2_cells h.blk
  have lsb := (Array.getElem?_eq_some_iff.1 h.blk).1
  have lg := h.row.lt g rfl
  have hcl : l.length ≤ cap := by
    rcases h.row.2 with ⟨e, _⟩ | ⟨_, _, _, e, _, hh, _⟩
    · cases e
    · injection e with _ _ e; omega
  have hd : decide ((n : Int) < 0) = false := by simp
  have hd2 : decide (l.length < n) = false := by simp; omega
  have hgs : ¬ sb = g := fun e => h.apart (by rw [e]; rfl)
  have hcells : ∀ c, (¬ cap = n → c = n) → ∀ ad, some (⟨g, c, none⟩ : Addr) = some ad → ∀ j u, ((l.drop n).map (Value.int .i64))[j]? = some u → w.cell? (ad.add j) = some u := by
    intro c hc ad e j u hu
    injection e with e; subst e
    have hj := (List.getElem?_eq_some_iff.1 hu).1
    simp at hj
    rw [hc (by omega), Addr.add_lit]
    refine hk.out.row.cells rfl _ _ ?_
    rw [List.getElem?_map, List.getElem?_drop] at hu
    rw [List.getElem?_map]
    exact hu
  have hrl : (l.drop n).length = l.length - n := List.length_drop
  by_cases hcn : cap = n
  · have hcn2 := hcn.symm
    subst hcn2
    have hcl' := stkCloneI (w := w) (ao := some ⟨g, 0, none⟩) (n := 0) (cap := 0) (xs := []) (by simp) (by simp) (by simp) (by simp) (by omega)
    have HCL := Lib.hid hcl'
    have HZ := Lib.hid (show l.length - n = 0 from by omega)
    have HD := Lib.hid (show l.drop n = [] from List.drop_eq_nil_of_le (by omega))
    clear hcells h hcl'
    go_enter Try.func151, Try.ntmps151
    go_wp2_with fail
    refine HCL.out.mono ?_
    rintro e w1 ⟨v, rfl, hv, hfr, T1⟩
    have hrv := revI (w := w1) (v := v) (xs := []) hv (by simp)
    have HRV := Lib.hid hrv
    obtain ⟨av, capv, rfl⟩ := hv.shape
    clear hrv
    go_wp2_with fail
    refine HRV.out.mono ?_
    rintro e w2 ⟨rfl, hv2, T2⟩
    have T12 := T1.step T2 (fun i hi e => by have := hfr i e; omega)
    have d1 := T12.cell0 c1
    have f2 := T12.frozen lsb f1 (fun f => f)
    have hrow2 := hk.out.row.turned0 T12
    clear c0 c1 f1
    go_wp2_with (first
      | (refine clear_none _ rfl (.tmp 32) 24 rfl 2 Try.underlying24 _ _ _ rfl rfl ?_))
    go_ret2
    have hrow3 := hrow2.take (m := n) (c := n) hn (Nat.le_refl _) (Nat.le_refl _)
    rw [Nat.mul_one] at hrow3
    obtain ⟨r1, r2⟩ := undo_closeI hk.out hn T12 (Turned.refl _ _) hrow3
    refine ⟨_, _, rfl, ?_, hfr, r1, rfl, r2⟩
    rw [HZ.out, HD.out]
    exact hv2.setCell (p := ⟨sb, 1, none⟩) (fun e => by have q : w.heap.size ≤ sb := hfr _ e; omega) _
  · have hcl' := stkCloneI (w := w) (ao := some ⟨g, n, none⟩) (n := l.length - n) (cap := cap - n) (xs := (l.drop n).map (Value.int .i64)) (by simp) (by simp) (hcells n (fun _ => rfl)) (onesI _) (by omega)
    have HCL := Lib.hid hcl'
    clear hcells h hcl'
    go_enter Try.func151, Try.ntmps151
    go_wp2_with fail
    refine HCL.out.mono ?_
    rintro e w1 ⟨v, rfl, hv, hfr, T1⟩
    have hrv := revI (w := w1) (v := v) (xs := l.drop n) (by rw [hrl]; exact hv) (by omega)
    rw [hrl] at hrv
    have HRV := Lib.hid hrv
    obtain ⟨av, capv, rfl⟩ := hv.shape
    clear hrv
    go_wp2_with fail
    refine HRV.out.mono ?_
    rintro e w2 ⟨rfl, hv2, T2⟩
    have T12 := T1.step T2 (fun i hi e => by have := hfr i e; omega)
    have d1 := T12.cell0 c1
    have f2 := T12.frozen lsb f1 (fun f => f)
    have hrow2 := hk.out.row.turned0 T12
    have lsb2 : sb < w2.heap.size := by have := T12.size; omega
    clear c0 c1 f1
    go_wp2_with (first
      | (refine clear_row _ rfl (.tmp 32) 24 rfl 2 (.int .i64 0) Try.underlying24 zeroVI rfl rfl g l.length cap n _ (l.length - n) _ hrow2 (by omega) rfl ?_; intro w3 hrow3 T3; have e1 := T3.cell d1 hgs; have f3 := T3.frozen lsb2 f2 hgs; clear d1 f2))

    go_ret2
    obtain ⟨r1, r2⟩ := undo_closeI hk.out hn T12 T3 hrow3
    refine ⟨_, _, rfl, ?_, hfr, r1, rfl, r2⟩
    exact (hv2.turned T3 (fun k e s => by have := hfr k e; have s : k = g := s; omega)).setCell (p := ⟨sb, 1, none⟩) (fun e => by have q : w.heap.size ≤ sb := hfr _ e; omega) _

set_option maxHeartbeats 1000000 in
theorem stkUndoI_nil {w : World} {B sb room : Nat} (h : StkI w B sb room (.slice none 0 0) []) :
    Calls Try.prog 151 #[.pointer (some ⟨sb, 0, none⟩), .int .i64 0] w fun e w' => e = .returned (.tuple #[.slice none 0 0, .bool true]) ∧ StkI w' B sb room (.slice none 0 0) [] ∧ Turned (Mine2 sb (.slice none 0 0)) w w' := by
  have hk := Lib.hid h
  obtain ⟨c0, c1, f1⟩ := rec2_cells h.blk
  have HCL := Lib.hid (stkCloneI_nil w)
  have hrv := revI (w := w) (v := .slice none 0 0) (xs := []) (Row.nil _ _ _) (by simp)
  have HRV := Lib.hid hrv
  have lsb := (Array.getElem?_eq_some_iff.1 h.blk).1
  clear h hrv
  go_enter Try.func151, Try.ntmps151
  go_wp2_with fail
  refine HCL.out.mono ?_
  rintro e w1 ⟨rfl, rfl⟩
  go_wp2_with fail
  refine HRV.out.mono ?_
  rintro e w2 ⟨rfl, hv2, T2⟩
  have T3 : Turned (fun _ => False) w w2 := T2.mono (fun i _ e => by simp [Value.ownBlock] at e)
  have d1 := T3.cell0 c1
  have f2 := T3.frozen lsb f1 (fun f => f)
  clear c0 c1 f1
  go_wp2_with (first
    | (refine clear_none _ rfl (.tmp 32) 24 rfl 2 Try.underlying24 _ _ _ rfl rfl ?_))
  go_ret2
  have h2 := hk.out.turned0 T3
  exact ⟨rfl, ⟨h2.base, h2.baseR, rec2_set h2.blk _, Row.nil _ _ _, h2.apart, h2.room1, h2.room2, h2.len⟩, (T3.mono (fun _ _ f => f.elim)).setCell (.inr (.inl rfl)) _⟩

/-- Undo to a mark that may be, whatever the row. -/
theorem stkUndoI {w : World} {B sb room : Nat} {lv : Value} {l : List Int} (h : StkI w B sb room lv l) (n : Nat) (hn : n ≤ l.length) :
    Calls Try.prog 151 #[.pointer (some ⟨sb, 0, none⟩), .int .i64 n] w fun e w' => ∃ v lv', e = .returned (.tuple #[v, .bool true]) ∧ Row w' 2 1 v (l.length - n) ((l.drop n).map (Value.int .i64)).reverse ∧ (∀ k, v.ownBlock = some k → w.heap.size ≤ k) ∧
      StkI w' B sb room lv' (l.take n) ∧ lv'.ownBlock = lv.ownBlock ∧ Turned (Mine2 sb lv) w w' := by
  rcases h.row.2 with ⟨rfl, hl⟩ | ⟨g, cap, cur, rfl, _⟩
  · obtain rfl : l = [] := List.eq_nil_of_length_eq_zero hl
    obtain rfl : n = 0 := by simpa using hn
    refine (stkUndoI_nil h).mono fun e w' ⟨he, h1, h2⟩ => ⟨_, _, he, by simpa using Row.nil _ _ _, by simp [Value.ownBlock], by simpa using h1, rfl, h2⟩
  · exact stkUndoI_some h n hn

end Go.Proofs.Ytoihjobdfjajfaa

/- bind.Undo. -/
namespace Go.Proofs.Ytoihjobdfjajfaa
open Go.RowKit Go.Maps
set_option linter.unusedVariables false
set_option linter.unusedSimpArgs false
theorem ptrs_unset {m : Nat} {l : TL} {i : Int} {c : Nat × LT} (h0 : 0 ≤ i) (h1 : i < (m : Int)) (hl : lookL l i = none) : (ptrs m ((i, c) :: l)).set i.toNat (.pointer none) = ptrs m l := by
  refine List.ext_getElem? (fun j => ?_)
  by_cases hj : j < m
  · rw [ptrs_at (l := l) hj]
    by_cases he : i.toNat = j
    · subst he
      rw [List.getElem?_set_self (by rw [ptrs_length]; omega), Int.toNat_of_nonneg h0, hl]
      rfl
    · rw [List.getElem?_set_ne he, ptrs_at hj]
      simp only [lookL]
      rw [if_neg (by omega)]
  · rw [List.getElem?_eq_none (by rw [List.length_set, ptrs_length]; omega), List.getElem?_eq_none (by rw [ptrs_length]; omega)]
section
variable {p : Nat → Prop} {bb sb m : Nat} {lv tv : Value} {l : TL} {w w' : World}
theorem BI.undo {tv' : Value} {k : Nat} (h : BI p bb sb lv tv m l w) (ht : Turned (fun k => k = sb ∨ lv.ownBlock = some k ∨ tv.ownBlock = some k) w w') (hs : w'.heap[sb]? = some (.cells #[.int .i64 65536, tv'] 209 (0, 0)))
    (hr : Row w' 165 1 lv m (ptrs m (l.drop k))) (htr : Row w' 2 1 tv' (l.drop k).length (((l.drop k).map fun b => Value.int .i64 b.1).reverse)) (ho : tv'.ownBlock = tv.ownBlock) : BI p bb sb lv tv' m (l.drop k) w' := by
  obtain ⟨n1, n2, n3, n4, n5, n6⟩ := h.ne
  have hbl := (Array.getElem?_eq_some_iff.1 h.b).1
  have hown : ∀ k, ownK bb sb lv tv' k → ownK bb sb lv tv k := by
    rintro k (e | e | e | e)
    · exact .inl e
    · exact .inr (.inl e)
    · exact .inr (.inr (.inl e))
    · exact .inr (.inr (.inr (ho ▸ e)))
  refine ⟨(ht.block _ hbl (fun e => e.elim n1 (fun e => e.elim n2 n4))).trans h.b, hs, hr, htr, fun b hb => ?_, ?_, h.most, ⟨n1, n2, n3, by rw [ho]; exact n4, by rw [ho]; exact n5, fun k hk => by rw [ho]; exact n6 k hk⟩, fun k hk => ⟨Nat.lt_of_lt_of_le (h.sep k hk).1 ht.size, fun c => (h.sep k hk).2 (hown k c)⟩⟩
  · obtain ⟨t1, t2, t3⟩ := h.terms b (List.mem_of_mem_drop hb)
    exact ⟨(ht.block _ (Array.getElem?_eq_some_iff.1 t1).1 (fun e => t3 (.inr e))).trans t1, LT.In.turned ht (fun k hk hq e => (h.sep k hq).2 (.inr e)) (fun k hk hq => hq) _ t2, fun e => t3 (hown _ e)⟩
  · have := Tm.okT_drop k h.ok
    unfold bt at this ⊢
    rw [List.map_drop]
    exact this
/-- Where the loop of Undo stands. -/
def UndL (lv : Value) (m : Nat) (l : TL) (N : Nat) (w2 : World) (k : Nat) (i : Value) (wr : World) : Prop :=
  ∃ j : Nat, Hid (j + k = N) ∧ j ≤ N ∧ i = .int .i64 j ∧ Hid (Row wr 165 1 lv m (ptrs m (l.drop j))) ∧ Hid (Turned (fun k => lv.ownBlock = some k) w2 wr)
set_option maxRecDepth 100000 in
set_option maxHeartbeats 3200000 in
theorem undo101 (h : BI p bb sb lv tv m l w) (n : Nat) (hn : n ≤ l.length) :
    Calls Try.prog 101 #[.pointer (some ⟨bb, 0, none⟩), .int .i64 n] w fun e w' => e = .returned (.bool true) ∧ (∃ tv', BI p bb sb lv tv' m (l.drop (l.length - n)) w' ∧ tv'.ownBlock = tv.ownBlock) ∧ Turned (fun k => k = sb ∨ lv.ownBlock = some k ∨ tv.ownBlock = some k) w w' := by
  obtain ⟨n1, n2, n3, n4, n5, n6⟩ := h.ne
  have hlen := h.length
  have hmost := h.most
  obtain ⟨c0, c1, _⟩ := rec2b h.b
  have hst : Stk (α := Int) 209 2 (Value.int .i64) w 0 sb 65536 tv (l.map (·.1)).reverse := ⟨Nat.zero_le _, fun _ _ => Nat.zero_le _, h.s, by
    have := h.trail
    rw [List.length_reverse, List.length_map, List.map_reverse, List.map_map]
    exact this, n5, by omega, by omega, by rw [List.length_reverse, List.length_map]; omega⟩
  have hu := stkUndoI hst n (by rw [List.length_reverse, List.length_map]; exact hn)
  have hdrop : (((l.map (·.1)).reverse.drop n).map (Value.int .i64)).reverse = (l.take (l.length - n)).map fun b => Value.int .i64 b.1 := by
    rw [← List.map_reverse, List.drop_reverse, List.reverse_reverse, List.length_map, ← List.map_take, List.map_map]
    rfl
  have htake : ((l.map (·.1)).reverse.take n) = ((l.drop (l.length - n)).map (·.1)).reverse := by
    rw [List.take_reverse, List.length_map, ← List.map_drop]
  rw [hdrop, htake, List.length_reverse, List.length_map] at hu
  have HU := Lib.hid hu
  have HB := Lib.hid h
  have hbl := (Array.getElem?_eq_some_iff.1 h.b).1
  have hml : l.length - n ≤ 65536 := by omega
  clear hu hst hdrop htake h
  go_enter Try.func101, Try.ntmps101
  go_wp2_with (go_at_call 151; (with_reducible refine HU.out.mono ?_); rintro e w2 ⟨v, tv', rfl, hv, hvn, hs2, ho2, T2⟩; obtain ⟨va, vc, rfl⟩ := hv.shape; have HV := Lib.hid hv; have HVN := Lib.hid hvn; have HS2 := Lib.hid hs2; have HO2 := Lib.hid ho2; have T2' : Turned (fun k => k = sb ∨ tv.ownBlock = some k) w w2 := T2; have HT2 := Lib.hid T2'; clear hv hvn hs2 ho2 T2 T2' c0 c1)
  have hbb := HT2.out.block bb hbl (fun e => e.elim n1 n4)
  have HB2 := Lib.hid (hbb.trans HB.out.b)
  have HR2 : Hid (Row w2 165 1 lv m (ptrs m (l.drop 0))) := HB.out.row.turned HT2.out (fun k hk e => by
    rcases e with e | e
    · exact n3 (e ▸ hk)
    · exact n6 k hk e)
  clear hbb
  go_loopg [20] (l.length - n) (fun k i wr => UndL lv m l (l.length - n) w2 k i wr)
  case atStart => exact ⟨0, Nat.zero_add _, Nat.zero_le _, rfl, HR2, Turned.refl _ _⟩
  case round =>
    obtain ⟨j, HG, hj, rfl, HR, HT⟩ := hrel
    have hbr := (HT.out.block bb (Array.getElem?_eq_some_iff.1 HB2.out).1 n2).trans HB2.out
    obtain ⟨b0, b1, _⟩ := rec2b hbr
    clear hbr
    by_cases hjl : j < l.length - n
    · obtain ⟨⟨i, c⟩, hx⟩ : ∃ x, l[j]? = some x := ⟨_, List.getElem?_eq_getElem (by omega)⟩
      have hmem := HB.out.ok
      have hin : (i, c.2.bare) ∈ bt l := List.mem_map.2 ⟨_, List.mem_of_getElem? hx, rfl⟩
      obtain ⟨i0, i1, _⟩ := Tm.okT_mem hmem hin
      have i0 : 0 ≤ i := i0
      have i1 : i < (m : Int) := i1
      have hdj : l.drop j = (i, c) :: l.drop (j + 1) := by
        rw [List.drop_eq_getElem_cons (by omega)]
        congr 1
        have := List.getElem?_eq_getElem (l := l) (i := j) (by omega)
        rw [hx] at this
        exact (Option.some.inj this).symm
      have hno : lookL (l.drop (j + 1)) i = none := by
        have hok := Tm.okT_drop j HB.out.ok
        have e : (bt l).drop j = (i, c.2.bare) :: bt (l.drop (j + 1)) := by unfold bt; rw [← List.map_drop, hdj]; rfl
        rw [e] at hok
        have h3 := Tm.look_none.2 hok.2.2.2.1
        rw [look_bt] at h3
        cases hq : lookL (l.drop (j + 1)) i with
        | none => rfl
        | some q => rw [hq] at h3; cases h3
      obtain ⟨g, cl, hle⟩ := HR.out.shape_pos (by omega)
      subst hle
      have hmx := HR.out.max
      have hrw := HR.out
      rw [hdj] at hrw
      have hset := hrw.setAt (off := i.toNat) (by omega) (.pointer none)
      rw [ptrs_unset i0 i1 hno] at hset
      have hrf := hrw.free rfl i.toNat
      have hrc := hrw.cells rfl i.toNat _ (ptrs_at (by omega))
      have hvr := HV.out.turned HT.out (fun k hk e => by
        have h1 := HVN.out k hk
        have h2 := HB.out.row.lt k e
        omega)
      obtain ⟨gv, cap, he⟩ := hvr.shape_pos (by omega)
      injection he with q1 _ q3
      subst q1 q3
      have hvc := hvr.cells rfl j (.int .i64 i) (by rw [List.getElem?_map, List.getElem?_take_of_lt hjl, hx]; rfl)
      have HST := Lib.hid hset
      clear hx hmem hin hdj hno hrw hset hvr
      have h64 : IntKind.i64.wrap i = i := wrapI (by omega) (by omega)
      go_wp2_with fail
      go_roundg (gk - 1)
      case measure => have := HG.out; omega
      case rel => exact ⟨j + 1, show _ = _ by have := HG.out; omega, by omega, by go_num, HST, HT.out.setCell (p := ⟨g, i.toNat, none⟩) (.inr rfl) _⟩
    · obtain rfl : j = l.length - n := by omega
      go_wp2_with fail
      go_ret
      have hs3 := (HT.out.block sb (Array.getElem?_eq_some_iff.1 HS2.out.blk).1 n3).trans HS2.out.blk
      have htr := HS2.out.row.turned HT.out (fun k hk e => n6 k e (by rw [← HO2.out]; exact hk))
      rw [List.length_reverse, List.length_map, List.map_reverse, List.map_map] at htr
      refine ⟨rfl, ⟨tv', HB.out.undo ((HT2.out.mono (fun k _ e => e.elim .inl (fun e => .inr (.inr e)))).trans (HT.out.mono (fun k _ e => .inr (.inl e)))) hs3 HR.out htr HO2.out, HO2.out⟩, (HT2.out.mono (fun k _ e => e.elim .inl (fun e => .inr (.inr e)))).trans (HT.out.mono (fun k _ e => .inr (.inl e)))⟩
end
end Go.Proofs.Ytoihjobdfjajfaa

/- bind.Has. -/
namespace Go.Proofs.Ytoihjobdfjajfaa
open Go.RowKit Go.Maps
set_option linter.unusedVariables false
set_option linter.unusedSimpArgs false
/-- What is still to be looked at, all the way in. -/
def remL (l : TL) (todo : List LT) : List (Tm Unit) := todo.reverse.flatMap fun y => (Tm.img (bt l) y.bare).flat
theorem remL_snoc (l : TL) (ys : List LT) (x : LT) : remL l (ys ++ [x]) = (Tm.img (bt l) x.bare).flat ++ remL l ys := by
  unfold remL; rw [List.reverse_append]; rfl
theorem remL_args (l : TL) (ys as_ : List LT) : remL l (ys ++ as_.reverse) = Tm.flats (as_.map fun y => Tm.img (bt l) y.bare) ++ remL l ys := by
  unfold remL
  rw [List.reverse_append, List.reverse_reverse, List.flatMap_append]
  congr 1
  induction as_ with
  | nil => rfl
  | cons y l ih => simp only [List.flatMap_cons, List.map_cons, Tm.flats, ih]
theorem remL_ne (l : TL) (ys : List LT) (x : LT) : remL l (ys ++ [x]) ≠ [] := by
  rw [remL_snoc, Tm.flat_eq]; simp
/-- The stack of Has. -/
structure HasI (p : Nat → Prop) (m : Nat) (w0 : World) (todo : List LT) (v : Value) (w : World) : Prop where
  row : Row w 27 4 v todo.length (todo.flatMap LT.cells)
  own : ∀ g, v.ownBlock = some g → w0.heap.size ≤ g
  mem : ∀ y ∈ todo, y.In p w ∧ given m y
  turned : Turned (fun _ => False) w0 w
  plt : ∀ k, p k → k < w0.heap.size
section
variable {p : Nat → Prop} {m : Nat} {w0 w w' : World} {todo ys : List LT} {x : LT} {v : Value}
theorem HasI.turned0 (h : HasI p m w0 todo v w) (T : Turned (fun _ => False) w w') : HasI p m w0 todo v w' := ⟨h.row.turned0 T, h.own, fun y hy => ⟨(h.mem y hy).1.turned0 T, (h.mem y hy).2⟩, h.turned.trans T, h.plt⟩
theorem HasI.pop {g k cap : Nat} (h : HasI p m w0 (ys ++ [x]) (.slice (some ⟨g, 0, none⟩) k cap) w) : k = ys.length + 1 ∧ HasI p m w0 ys (.slice (some ⟨g, 0, none⟩) ys.length cap) w ∧ ys.length + 1 ≤ cap ∧ cap ≤ maxLen := by
  have hr := h.row
  have hn : k = ys.length + 1 := by
    rcases hr.2 with ⟨e, _⟩ | ⟨g', c', cur, e, _⟩
    · cases e
    · injection e with _ e _; simp at e; exact e
  subst hn
  have hcap : ys.length + 1 ≤ cap ∧ cap ≤ maxLen := by
    rcases hr.2 with ⟨e, _⟩ | ⟨g', c', cur, e, _, h1, h2, _⟩
    · cases e
    · injection e with _ _ e; subst e; simp at h1; omega
  have hr' : Row w 27 4 (.slice (some ⟨g, 0, none⟩) (ys.length + 1) cap) (ys.length + 1) ((ys ++ [x]).flatMap LT.cells) := by simpa using hr
  have ht := hr'.take (m := ys.length) (c := cap) (by omega) (by omega) (Nat.le_refl _)
  rw [List.flatMap_append, List.take_left' (by rw [LT.flat_length])] at ht
  exact ⟨rfl, ⟨ht, fun k hk => h.own k (by simpa [Value.ownBlock] using hk), fun y hy => h.mem y (List.mem_append_left _ hy), h.turned, h.plt⟩, hcap⟩
theorem HasI.top {g k cap : Nat} (h : HasI p m w0 (ys ++ [x]) (.slice (some ⟨g, 0, none⟩) k cap) w) :
    w.cell? ⟨g, ys.length * 4, none⟩ = some (.int .i64 x.kind) ∧ w.cell? ⟨g, ys.length * 4 + 1, none⟩ = some (.int .i64 x.n) ∧ w.cell? ⟨g, ys.length * 4 + 2, none⟩ = some (.string x.name) ∧ w.cell? ⟨g, ys.length * 4 + 3, none⟩ = some (.slice x.at_.1 x.args.length x.at_.2) := by
  have hn := h.pop.1
  subst hn
  have hr : Row w 27 4 (.slice (some ⟨g, 0, none⟩) (ys.length + 1) cap) (ys.length + 1) ((ys ++ [x]).flatMap LT.cells) := by simpa using h.row
  have hi : (ys ++ [x])[ys.length]? = some x := by simp
  refine ⟨hr.cells rfl _ _ ?_, hr.cells rfl _ _ ?_, hr.cells rfl _ _ ?_, hr.cells rfl _ _ ?_⟩
  · have := LT.flat_at hi 0 (by omega); rw [Nat.add_zero] at this; rw [this, LT.cells_eq]; rfl
  · rw [LT.flat_at hi 1 (by omega), LT.cells_eq]; rfl
  · rw [LT.flat_at hi 2 (by omega), LT.cells_eq]; rfl
  · rw [LT.flat_at hi 3 (by omega), LT.cells_eq]; rfl
theorem HasI.push {v' : Value} {y : LT} (h : HasI p m w0 ys v w) (hy : y.In p w ∧ given m y) (hr : Row w' 27 4 v' (ys.length + 1) (ys.flatMap LT.cells ++ y.cells)) (T : Turned (fun k => v.ownBlock = some k) w w') (ho : v'.ownBlock = v.ownBlock ∨ ∀ k, v'.ownBlock = some k → w.heap.size ≤ k) : HasI p m w0 (ys ++ [y]) v' w' := by
  refine ⟨by rw [List.flatMap_append, List.length_append]; simpa using hr, fun g e => ?_, fun z hz => ?_, h.turned.step T (fun i hi e => by have := h.own i e; omega), h.plt⟩
  · rcases ho with ho | ho
    · exact h.own g (ho ▸ e)
    · have := ho g e; have := h.turned.size; omega
  · rcases List.mem_append.1 hz with hz | hz
    · exact ⟨LT.In.turned T (fun k _ hk e => by have := h.own k e; have := h.plt k hk; omega) (fun _ _ q => q) _ (h.mem z hz).1, (h.mem z hz).2⟩
    · rw [List.mem_singleton] at hz; rw [hz]; exact ⟨LT.In.turned T (fun k _ hk e => by have := h.own k e; have := h.plt k hk; omega) (fun _ _ q => q) _ hy.1, hy.2⟩
end
/-- One round: what was walked to is no hit. -/
theorem has_miss {m most c : Nat} {n : Int} {l : TL} {ys : List LT} {x0 x : LT} (hl : Tm.okT m (bt l)) (hw : Tm.Walked m (bt l) x0.bare x.bare) (hc : c < most) (hn : ¬ (x.kind = 0 ∧ x.n = n)) :
    Tm.hasL most n c (remL l (ys ++ [x0])) = Tm.hasL most n (c + 1) (remL l (ys ++ x.args.reverse)) := by
  rw [remL_snoc, remL_args]
  by_cases hk : x.kind = 0
  · have hkb : x.bare.kind = 0 := by rw [Tm.bare_kind]; exact hk
    rw [hw.flat_var hl hkb]
    have hb := Tm.leafy_self hw.leafy hkb
    have ha : x.args = [] := by
      have := congrArg (fun t => (Tm.args t).length) hb
      exact List.eq_nil_of_length_eq_zero ((Tm.bare_arity x).symm.trans this)
    rw [ha, List.map_nil, Tm.flats, List.nil_append]
    exact Tm.hasL_miss (by rw [Tm.bare_kind, Tm.bare_n]; exact hn) hc
  · have hkb : ¬ x.bare.kind = 0 := by rw [Tm.bare_kind]; exact hk
    obtain ⟨h1, h2⟩ := hw.flat_node hl hkb
    rw [h1, List.cons_append, Tm.hasL_node h2 hc, Tm.bare_args, Tm.bares_eq, List.map_map]
    rfl
theorem has_hit {m most c : Nat} {n : Int} {l : TL} {ys : List LT} {x0 x : LT} (hl : Tm.okT m (bt l)) (hw : Tm.Walked m (bt l) x0.bare x.bare) (hk : x.kind = 0) (hn : x.n = n) :
    Tm.hasL most n c (remL l (ys ++ [x0])) = (true, c + 1) := by
  rw [remL_snoc, hw.flat_var hl (by rw [Tm.bare_kind]; exact hk)]
  exact Tm.hasL_hit (by rw [Tm.bare_kind]; exact hk) (by rw [Tm.bare_n]; exact hn)
theorem given_args' {m : Nat} {x y : LT} (h : given m x) (hy : y ∈ x.args) : given m y := by
  by_cases hk : x.kind = 0
  · have := (given_var h hk).2.2.2.1
    rw [this] at hy
    cases hy
  · exact given_args h hk y hy
/-- What Has answers. -/
def hasR (m : Nat) (l : Tm.Trail) (n : Int) (t : Tm Unit) (most : Nat) : Bool × Nat := if Tm.ownB m t = true then Tm.hasL most n 0 (Tm.img l t).flat else (false, 0)
def HasL (p : Nat → Prop) (m : Nat) (l : TL) (n : Int) (M : Nat) (R : Bool × Nat) (w0 : World) (k : Nat) (v c : Value) (wr : World) : Prop :=
  ∃ (todo : List LT) (j : Nat), Hid (j + k = M) ∧ j ≤ M ∧ c = .int .i64 j ∧ Hid (HasI p m w0 todo v wr) ∧ Hid (Tm.hasL M n j (remL l todo) = R) ∧ Hid (todo.length ≤ 1 + 8 * j)
set_option maxRecDepth 100000 in
set_option maxHeartbeats 6400000 in
theorem has106 {p O : Nat → Prop} {bb m : Nat} {l : TL} {w : World} {t : LT} {n most : Int} (h : BO p bb O m l w) (ht : t.In p w) (hs : slim t) (hm : most ≤ 100000) (hm0 : -9223372036854775808 ≤ most) :
    Calls Try.prog 106 #[.pointer (some ⟨bb, 0, none⟩), .int .i64 n, t.val, .int .i64 most] w fun e w' => e = .returned (.tuple #[.bool (hasR m (bt l) n t.bare most.toNat).1, .int .i64 (hasR m (bt l) n t.bare most.toNat).2]) ∧ Turned (fun _ => False) w w' := by
  obtain ⟨i0, hi0, hz0, hz1, hz2⟩ := info_parts infoT
  have T1 : Turned (fun _ => False) w (w.alloc (.cells #[.int .i64 t.kind, .int .i64 t.n, .string t.name, .slice t.at_.1 t.args.length t.at_.2] 27)) := (Turned.refl _ w).alloc _
  have how : Calls Try.prog 144 #[.pointer (some ⟨bb, 0, none⟩), t.val] (w.alloc (.cells #[.int .i64 t.kind, .int .i64 t.n, .string t.name, .slice t.at_.1 t.args.length t.at_.2] 27)) fun e w' => e = .returned (.bool (Tm.ownB m t)) ∧ Turned (fun _ => False) (w.alloc (.cells #[.int .i64 t.kind, .int .i64 t.n, .string t.name, .slice t.at_.1 t.args.length t.at_.2] 27)) w' := by
    obtain ⟨sb, lv, tv, B, _⟩ := h.bi
    exact own144 (B.turned0 T1) (ht.turned0 T1) hs
  have hbx := heap_alloc_new w (.cells #[.int .i64 t.kind, .int .i64 t.n, .string t.name, .slice t.at_.1 t.args.length t.at_.2] 27)
  have HBX := Lib.hid hbx
  have HT := Lib.hid ht
  have HH := Lib.hid h
  have HT1 := Lib.hid T1
  have hob0 := ownB_bare m t
  rw [LT.val_eq] at how ⊢
  cases hob : Tm.ownB m t with
  | false =>
    have hR : hasR m (bt l) n t.bare most.toNat = (false, 0) := by unfold hasR; rw [hob0, hob]; rfl
    rw [hR]
    rw [hob] at how
    have HOW := Lib.hid how
    clear how hob hob0 hR h ht hs hbx T1
    go_enter Try.func106, Try.ntmps106
    go_wp2_with (go_at_call 144; (with_reducible refine HOW.out.mono ?_); rintro e w4 ⟨rfl, T4⟩)
    go_ret2
    exact ⟨rfl, HT1.out.trans T4⟩
  | true =>
    have hgb := Tm.ownB_iff.1 (show Tm.ownB m t.bare = true by rw [hob0, hob])
    have hgv : given m t := ⟨Tm.good_ones' hgb.1, hgb.2⟩
    have hst : ∀ M, Tm.hasL M n 0 (remL l [t]) = hasR m (bt l) n t.bare M := fun M => by
      unfold hasR; rw [hob0, hob, if_pos rfl]
      rw [show ([t] : List LT) = [] ++ [t] from rfl, remL_snoc]
      show Tm.hasL M n 0 (_ ++ []) = _
      rw [List.append_nil]
    rw [hob] at how
    have HOW := Lib.hid how
    have HGV := Lib.hid hgv
    clear how hob hob0 h ht hs hbx T1 hgv hgb
    by_cases hneg : most < 0
    · have hM0 : most.toNat = 0 := by omega
      rw [hM0]
      have hmx : ¬ (0 : Int) < most := by omega
      obtain ⟨R, hR⟩ : ∃ z, z = hasR m (bt l) n t.bare 0 := ⟨_, rfl⟩
      have HST := Lib.hid ((hst 0).trans hR.symm)
      rw [← hR]
      clear hR hst hM0
      go_enter Try.func106, Try.ntmps106
      go_wp2_with (go_at_call 144; (with_reducible refine HOW.out.mono ?_); rintro e w4 ⟨rfl, T4⟩; obtain ⟨c0, c1, c2, c3, _⟩ := cells4 ((T4.block _ (by simp) (fun f => f)).trans HBX.out); have HT4 := Lib.hid (HT1.out.trans T4); clear T4)
      have hinit : Hid (HasI p m w [t] (.slice (some ⟨w4.heap.size, 0, none⟩) 1 1) (w4.alloc (.cells #[.int .i64 t.kind, .int .i64 t.n, .string t.name, .slice t.at_.1 t.args.length t.at_.2] 27))) := by
        refine ⟨?_, fun g e => by (simp [Value.ownBlock] at e; have := HT4.out.size; omega), fun y hy => ?_, HT4.out.alloc _, HH.out.plt⟩
        · have := Row.made w4 27 4 #[.int .i64 t.kind, .int .i64 t.n, .string t.name, .slice t.at_.1 t.args.length t.at_.2] 1 rfl (by unfold maxLen; omega)
          simpa [LT.cells_eq] using this
        · rw [List.mem_singleton] at hy
          rw [hy]
          exact ⟨HT.out.turned0 (HT4.out.alloc _), HGV.out⟩
      go_loopg [10, 11] 0 (fun k v c wr => HasL p m l n 0 R w k v c wr)
      case atStart => exact ⟨[t], 0, Nat.zero_add _, Nat.zero_le _, rfl, hinit, HST.out, show _ ≤ _ by simp⟩
      case round =>
        obtain ⟨todo, j, HG, hj, rfl, HI, HR, HL⟩ := hrel
        obtain ⟨wo, rfl⟩ : ∃ wo : World, wo = wr := ⟨_, rfl⟩
        obtain ⟨go, rfl⟩ : ∃ go : Nat, go = gk := ⟨_, rfl⟩
        rcases List.eq_nil_or_concat todo with rfl | ⟨ys, x0, rfl⟩
        · obtain ⟨a, cap, rfl⟩ := HI.out.row.shape
          have hr : R = (false, j) := HR.out.symm
          have HRR := Lib.hid hr
          clear hr
          go_wp2_with fail
          go_ret2
          rw [HRR.out]
          exact ⟨rfl, HI.out.turned⟩
        · rw [List.concat_eq_append] at HI HR HL
          obtain ⟨g, cap, rfl⟩ := HI.out.row.shape_pos (by simp)
          obtain ⟨hn1, hI1, hc1, hc2⟩ := HI.out.pop
          obtain ⟨c0, c1, c2, c3⟩ := HI.out.top
          have hcm : cap ≤ 9223372036854775807 := by unfold maxLen at hc2; exact hc2
          have hys : ys.length ≤ 800001 := by have := HL.out; rw [List.length_append, List.length_singleton] at this; omega
          rw [List.length_append, List.length_singleton]
          have HI1 := Lib.hid hI1
          by_cases hjm : j = 0
          · have hjb : ((j : Int) == 0) = true := by simp [hjm]
            have hr : R = (true, 0 + 1) := by rw [← HR.out, Tm.hasL_stop (by omega) (remL_ne l ys x0), hjm]
            have HRR := Lib.hid hr
            clear hr hjm hI1 hn1
            go_wp2_with fail
            go_ret2
            rw [HRR.out]
            exact ⟨rfl, HI.out.turned⟩
          · omega
    · obtain ⟨M, rfl⟩ : ∃ M : Nat, most = M := ⟨most.toNat, by omega⟩
      rw [Int.toNat_natCast]
      obtain ⟨R, hR⟩ : ∃ z, z = hasR m (bt l) n t.bare M := ⟨_, rfl⟩
      have HST := Lib.hid ((hst M).trans hR.symm)
      rw [← hR]
      clear hR hst
      go_enter Try.func106, Try.ntmps106
      go_wp2_with (go_at_call 144; (with_reducible refine HOW.out.mono ?_); rintro e w4 ⟨rfl, T4⟩; obtain ⟨c0, c1, c2, c3, _⟩ := cells4 ((T4.block _ (by simp) (fun f => f)).trans HBX.out); have HT4 := Lib.hid (HT1.out.trans T4); clear T4)
      have hinit : Hid (HasI p m w [t] (.slice (some ⟨w4.heap.size, 0, none⟩) 1 1) (w4.alloc (.cells #[.int .i64 t.kind, .int .i64 t.n, .string t.name, .slice t.at_.1 t.args.length t.at_.2] 27))) := by
        refine ⟨?_, fun g e => by (simp [Value.ownBlock] at e; have := HT4.out.size; omega), fun y hy => ?_, HT4.out.alloc _, HH.out.plt⟩
        · have := Row.made w4 27 4 #[.int .i64 t.kind, .int .i64 t.n, .string t.name, .slice t.at_.1 t.args.length t.at_.2] 1 rfl (by unfold maxLen; omega)
          simpa [LT.cells_eq] using this
        · rw [List.mem_singleton] at hy
          rw [hy]
          exact ⟨HT.out.turned0 (HT4.out.alloc _), HGV.out⟩
      go_loopg [10, 11] M (fun k v c wr => HasL p m l n M R w k v c wr)
      case atStart => exact ⟨[t], 0, Nat.zero_add _, Nat.zero_le _, rfl, hinit, HST.out, show _ ≤ _ by simp⟩
      case round =>
        obtain ⟨todo, j, HG, hj, rfl, HI, HR, HL⟩ := hrel
        obtain ⟨wo, rfl⟩ : ∃ wo : World, wo = wr := ⟨_, rfl⟩
        obtain ⟨go, rfl⟩ : ∃ go : Nat, go = gk := ⟨_, rfl⟩
        rcases List.eq_nil_or_concat todo with rfl | ⟨ys, x0, rfl⟩
        · obtain ⟨a, cap, rfl⟩ := HI.out.row.shape
          have hr : R = (false, j) := HR.out.symm
          have HRR := Lib.hid hr
          clear hr
          go_wp2_with fail
          go_ret2
          rw [HRR.out]
          exact ⟨rfl, HI.out.turned⟩
        · rw [List.concat_eq_append] at HI HR HL
          obtain ⟨g, cap, rfl⟩ := HI.out.row.shape_pos (by simp)
          obtain ⟨hn1, hI1, hc1, hc2⟩ := HI.out.pop
          obtain ⟨c0, c1, c2, c3⟩ := HI.out.top
          have hcm : cap ≤ 9223372036854775807 := by unfold maxLen at hc2; exact hc2
          have hys : ys.length ≤ 800001 := by have := HL.out; rw [List.length_append, List.length_singleton] at this; omega
          rw [List.length_append, List.length_singleton]
          have HI1 := Lib.hid hI1
          by_cases hjm : j = M
          · have hjb : ((j : Int) == (M : Int)) = true := by simp [hjm]
            have hr : R = (true, M + 1) := by rw [← HR.out, Tm.hasL_stop (by omega) (remL_ne l ys x0), hjm]
            have HRR := Lib.hid hr
            clear hr hjm hI1 hn1
            go_wp2_with fail
            go_ret2
            rw [HRR.out]
            exact ⟨rfl, HI.out.turned⟩
          · have hjb : ((j : Int) == (M : Int)) = false := by simp; omega
            have hjl : j < M := by omega
            have hw := Tm.walked HH.out.ok _ x0.bare (Nat.le_refl _) (HI.out.mem x0 (by simp)).2.1
            have hwc := walkO90 (HH.out.turned0 HI.out.turned) (HI.out.mem x0 (by simp)).1 (HI.out.mem x0 (by simp)).2.1
            have hgx := (HI.out.mem x0 (by simp)).2
            rw [LT.val_eq] at hwc
            have HWC := Lib.hid hwc
            have HWD := Lib.hid hw
            have HGX := Lib.hid hgx
            clear hw hwc hI1 hn1 hgx
            obtain ⟨K, hK⟩ : ∃ z, z = (Tm.walkT (bt l) x0.bare).kind := ⟨_, rfl⟩
            obtain ⟨Q, hQ⟩ : ∃ z, z = (Tm.walkT (bt l) x0.bare).n := ⟨_, rfl⟩
            have HK := Lib.hid hK
            have HQ := Lib.hid hQ
            clear hK hQ
            by_cases hhit : K = 0 ∧ Q = n
            · have hr : ∀ x : LT, x.bare = Tm.walkT (bt l) x0.bare → R = (true, j + 1) ∧ x.kind = 0 ∧ x.n = n := fun x hx => by
                have h1 : x.kind = 0 := by rw [← Tm.bare_kind, hx, ← HK.out]; exact hhit.1
                have h2 : x.n = n := by rw [← Tm.bare_n, hx, ← HQ.out]; exact hhit.2
                exact ⟨by rw [← HR.out]; exact has_hit HH.out.ok (by rw [hx]; exact HWD.out) h1 h2, h1, h2⟩
              have HRR := Lib.hid hr
              clear hr hhit
              go_wp2_with (go_at_call 90; (with_reducible refine HWC.out.mono ?_); rintro e w6 ⟨x, rfl, hxi, hxb, T6⟩; rw [LT.val_eq]; obtain ⟨r1, r2, r3⟩ := HRR.out x hxb; rw [r2, r3]; have HT6 := Lib.hid T6; have HR1 := Lib.hid r1; clear hxi hxb T6 r1 r2 r3)
              go_ret2
              rw [HR1.out]
              exact ⟨rfl, (HI.out.turned.trans HT6.out).alloc _⟩
            · have hgw : ∀ x : LT, x.bare = Tm.walkT (bt l) x0.bare → given m x := fun x hx => ⟨by rw [hx]; exact HWD.out.ones, by rw [hx]; exact HWD.out.lt HGX.out.2⟩
              have HGW := Lib.hid hgw
              have hms : ∀ x : LT, x.bare = Tm.walkT (bt l) x0.bare → Tm.hasL M n (j + 1) (remL l (ys ++ x.args.reverse)) = R := fun x hx => by
                rw [← HR.out]
                exact (has_miss HH.out.ok (by rw [hx]; exact HWD.out) hjl (fun c => hhit ⟨by rw [HK.out, ← hx, Tm.bare_kind]; exact c.1, by rw [HQ.out, ← hx, Tm.bare_n]; exact c.2⟩)).symm
              have HMS := Lib.hid hms
              clear hgw hms
              by_cases hk0 : K = 0
              · have hqn : ∀ x : LT, x.bare = Tm.walkT (bt l) x0.bare → (x.kind == 0) = true ∧ (x.n == n) = false := fun x hx => by
                  have h1 : x.kind = 0 := by rw [← Tm.bare_kind, hx, ← HK.out]; exact hk0
                  have h2 : ¬ x.n = n := fun e => hhit ⟨hk0, by rw [HQ.out, ← hx, Tm.bare_n]; exact e⟩
                  exact ⟨by simp [h1], by simp [h2]⟩
                have HQN := Lib.hid hqn
                clear hqn hhit hk0
                go_wp2_with (go_at_call 90; (with_reducible refine HWC.out.mono ?_); rintro e w6 ⟨x, rfl, hxi, hxb, T6⟩; rw [LT.val_eq]; obtain ⟨b1, b2⟩ := HQN.out x hxb; have hlen := hxi.len; have hal : x.args.length ≤ 8 := given_arity (HGW.out x hxb); have HXI := Lib.hid hxi; have HXB := Lib.hid hxb; have hI6 := HI1.out.turned0 T6; have HI6 := Lib.hid hI6; have hb6 := heap_alloc_new w6 (.cells #[.int .i64 x.kind, .int .i64 x.n, .string x.name, .slice x.at_.1 x.args.length x.at_.2] 27); have HB6 := Lib.hid hb6; clear hxi hxb T6 hI6 hlen hb6)
                have hI7 := HI6.out.turned0 ((Turned.refl (fun _ => False) w6).alloc (.cells #[.int .i64 x.kind, .int .i64 x.n, .string x.name, .slice x.at_.1 x.args.length x.at_.2] 27))
                have hx7 := HXI.out.turned0 ((Turned.refl (fun _ => False) w6).alloc (.cells #[.int .i64 x.kind, .int .i64 x.n, .string x.name, .slice x.at_.1 x.args.length x.at_.2] 27))
                have hn7 : g ≠ w6.heap.size := fun e => by have := HI6.out.row.lt g rfl; omega
                have HI7 := Lib.hid hI7
                have HX7 := Lib.hid hx7
                have HLI := Lib.hid HXI.out.lies
                clear hI7 hx7
                try clear b1 b2
                go_loopg [10, 13] x.args.length (fun q v i wr2 => Hid (q ≤ x.args.length) ∧ i = .int .i64 ((q : Int) - 1) ∧ Hid (HasI p m w (ys ++ (x.args.drop q).reverse) v wr2) ∧ wr2.heap[w6.heap.size]? = some (.cells #[.int .i64 x.kind, .int .i64 x.n, .string x.name, .slice x.at_.1 x.args.length x.at_.2] 27 (0, 0)) ∧ Hid (∀ g, v.ownBlock = some g → g ≠ w6.heap.size) ∧ Hid (x.In p wr2))
                case atStart => exact ⟨Nat.le_refl _, rfl, (show HasI _ _ _ _ _ _ by simpa using HI7.out), HB6.out, fun g' hg' => by (simp [Value.ownBlock] at hg'; subst hg'; exact hn7), HX7.out⟩
                case round =>
                  obtain ⟨HJ, hi, HI8, hb8, HO8, HX8⟩ := hrel
                  obtain ⟨a8, cap8, rfl⟩ := HI8.out.row.shape
                  obtain ⟨c0, c1, c2, c3, _⟩ := cells4 hb8
                  have HB8 := Lib.hid hb8
                  clear hb8
                  rcases gk with _ | q
                  · rw [show (((0 : Nat) : Int) - 1) = -1 from rfl] at hi
                    subst hi
                    go_wp2_with fail
                    go_roundg (go - 1)
                    case measure => have := HG.out; omega
                    case rel =>
                      refine ⟨ys ++ x.args.reverse, j + 1, show _ = _ by (have := HG.out; omega), by omega, by go_num, (show HasI _ _ _ _ _ _ by simpa using HI8.out), HMS.out x HXB.out, ?_⟩
                      show _ ≤ _
                      have := HL.out
                      simp at this ⊢
                      omega
                  · rw [show (((q + 1 : Nat) : Int) - 1) = (q : Int) from by omega] at hi
                    subst hi
                    have hm : q < x.args.length := by have := HJ.out; omega
                    obtain ⟨y, hy⟩ : ∃ y : LT, x.args[q]? = some y := ⟨_, List.getElem?_eq_getElem hm⟩
                    obtain ⟨b, o, ha, _, d0, d1, d2, d3⟩ := HX8.out.lies.cell hy
                    rw [ha] at c3
                    have HY := Lib.hid hy
                    have HAd := Lib.hid ha
                    have hgy := given_args' (HGW.out x HXB.out) (List.mem_of_getElem? hy)
                    have hyi : y.In p wr := (LT.ins_iff _).1 HX8.out.args y (List.mem_of_getElem? hy)
                    have TA : Turned (fun _ => False) wr (wr.alloc (.cells #[.int .i64 y.kind, .int .i64 y.n, .string y.name, .slice y.at_.1 y.args.length y.at_.2] 27)) := (Turned.refl _ wr).alloc _
                    have hrow := (HI8.out.turned0 TA).row
                    have hnews := news_block (cs := y.cells) (by rw [LT.cells_eq y]; exact heap_alloc_new wr (.cells #[.int .i64 y.kind, .int .i64 y.n, .string y.name, .slice y.at_.1 y.args.length y.at_.2] 27))
                    have HN := Lib.hid hnews
                    have HR9 := Lib.hid hrow
                    have HYG := Lib.hid (And.intro (hyi.turned0 TA) hgy)
                    have HTA := Lib.hid TA
                    have hlen : (ys ++ (x.args.drop (q + 1)).reverse).length ≤ 800200 := by simp; omega
                    clear hy ha hnews hrow TA hgy hyi
                    go_wp2_with (at_builtin; refine append_some _ rfl _ _ 22 rfl 27 i0 zeroT 4 56 Try.underlying22 hi0 hz0 hz1 hz2 rfl (by decide) _ _ _ rfl HR9.out ⟨wr.heap.size, 0, none⟩ 1 1 y.cells rfl (LT.cells_length y) HN.out (LT.cells_one y) (by omega) (by unfold maxLen; omega) (by omega) ?_; intro g5 cap5 w5 hown5 hg5 hloc5)
                    go_roundg q
                    case measure => omega
                    case rel =>
                      have hpush := (HI8.out.turned0 HTA.out).push HYG.out hown5 hg5 (by
                        rcases hloc5 with e | e
                        · exact .inl e
                        · exact .inr (own_new e (by simp)))
                      have hst : ys ++ (x.args.drop (q + 1)).reverse ++ [y] = ys ++ (x.args.drop q).reverse := by
                        rw [List.append_assoc, List.drop_eq_getElem_cons hm, List.reverse_cons]
                        have hy := HY.out
                        rw [List.getElem?_eq_getElem hm] at hy
                        injection hy with hy
                        rw [hy]
                      rw [hst] at hpush
                      have hl5 : (ys ++ (x.args.drop (q + 1)).reverse).length = ys.length + (x.args.length - (q + 1)) := by simp
                      rw [hl5] at hpush
                      refine ⟨by have := HJ.out; show _ ≤ _; omega, rfl, hpush, ?_, ?_, ?_⟩
                      · exact (hg5.block _ (Nat.lt_of_lt_of_le (Array.getElem?_eq_some_iff.1 HB8.out).1 HTA.out.size) (fun e => HO8.out _ e rfl)).trans ((HTA.out.block _ (Array.getElem?_eq_some_iff.1 HB8.out).1 (fun f => f)).trans HB8.out)
                      · show ∀ g', _
                        intro g' hg'
                        rcases hloc5 with e | e
                        · exact HO8.out g' (e.symm.trans hg')
                        · simp [Value.ownBlock] at hg'
                          have h1 := (Array.getElem?_eq_some_iff.1 HB8.out).1
                          simp at e
                          omega
                      · exact LT.In.turned hg5 (fun k _ hk e => by have := HI8.out.own k e; have := HI8.out.plt k hk; omega) (fun _ _ q => q) _ (HX8.out.turned0 HTA.out)
              · have hqn : ∀ x : LT, x.bare = Tm.walkT (bt l) x0.bare → (x.kind == 0) = false ∧ True := fun x hx => by
                  have h1 : ¬ x.kind = 0 := by rw [← Tm.bare_kind, hx, ← HK.out]; exact hk0
                  exact ⟨by simp [h1], trivial⟩
                have HQN := Lib.hid hqn
                clear hqn hhit hk0
                go_wp2_with (go_at_call 90; (with_reducible refine HWC.out.mono ?_); rintro e w6 ⟨x, rfl, hxi, hxb, T6⟩; rw [LT.val_eq]; obtain ⟨b1, b2⟩ := HQN.out x hxb; have hlen := hxi.len; have hal : x.args.length ≤ 8 := given_arity (HGW.out x hxb); have HXI := Lib.hid hxi; have HXB := Lib.hid hxb; have hI6 := HI1.out.turned0 T6; have HI6 := Lib.hid hI6; have hb6 := heap_alloc_new w6 (.cells #[.int .i64 x.kind, .int .i64 x.n, .string x.name, .slice x.at_.1 x.args.length x.at_.2] 27); have HB6 := Lib.hid hb6; clear hxi hxb T6 hI6 hlen hb6)
                have hI7 := HI6.out.turned0 ((Turned.refl (fun _ => False) w6).alloc (.cells #[.int .i64 x.kind, .int .i64 x.n, .string x.name, .slice x.at_.1 x.args.length x.at_.2] 27))
                have hx7 := HXI.out.turned0 ((Turned.refl (fun _ => False) w6).alloc (.cells #[.int .i64 x.kind, .int .i64 x.n, .string x.name, .slice x.at_.1 x.args.length x.at_.2] 27))
                have hn7 : g ≠ w6.heap.size := fun e => by have := HI6.out.row.lt g rfl; omega
                have HI7 := Lib.hid hI7
                have HX7 := Lib.hid hx7
                have HLI := Lib.hid HXI.out.lies
                clear hI7 hx7
                try clear b1 b2
                go_loopg [10, 13] x.args.length (fun q v i wr2 => Hid (q ≤ x.args.length) ∧ i = .int .i64 ((q : Int) - 1) ∧ Hid (HasI p m w (ys ++ (x.args.drop q).reverse) v wr2) ∧ wr2.heap[w6.heap.size]? = some (.cells #[.int .i64 x.kind, .int .i64 x.n, .string x.name, .slice x.at_.1 x.args.length x.at_.2] 27 (0, 0)) ∧ Hid (∀ g, v.ownBlock = some g → g ≠ w6.heap.size) ∧ Hid (x.In p wr2))
                case atStart => exact ⟨Nat.le_refl _, rfl, (show HasI _ _ _ _ _ _ by simpa using HI7.out), HB6.out, fun g' hg' => by (simp [Value.ownBlock] at hg'; subst hg'; exact hn7), HX7.out⟩
                case round =>
                  obtain ⟨HJ, hi, HI8, hb8, HO8, HX8⟩ := hrel
                  obtain ⟨a8, cap8, rfl⟩ := HI8.out.row.shape
                  obtain ⟨c0, c1, c2, c3, _⟩ := cells4 hb8
                  have HB8 := Lib.hid hb8
                  clear hb8
                  rcases gk with _ | q
                  · rw [show (((0 : Nat) : Int) - 1) = -1 from rfl] at hi
                    subst hi
                    go_wp2_with fail
                    go_roundg (go - 1)
                    case measure => have := HG.out; omega
                    case rel =>
                      refine ⟨ys ++ x.args.reverse, j + 1, show _ = _ by (have := HG.out; omega), by omega, by go_num, (show HasI _ _ _ _ _ _ by simpa using HI8.out), HMS.out x HXB.out, ?_⟩
                      show _ ≤ _
                      have := HL.out
                      simp at this ⊢
                      omega
                  · rw [show (((q + 1 : Nat) : Int) - 1) = (q : Int) from by omega] at hi
                    subst hi
                    have hm : q < x.args.length := by have := HJ.out; omega
                    obtain ⟨y, hy⟩ : ∃ y : LT, x.args[q]? = some y := ⟨_, List.getElem?_eq_getElem hm⟩
                    obtain ⟨b, o, ha, _, d0, d1, d2, d3⟩ := HX8.out.lies.cell hy
                    rw [ha] at c3
                    have HY := Lib.hid hy
                    have HAd := Lib.hid ha
                    have hgy := given_args' (HGW.out x HXB.out) (List.mem_of_getElem? hy)
                    have hyi : y.In p wr := (LT.ins_iff _).1 HX8.out.args y (List.mem_of_getElem? hy)
                    have TA : Turned (fun _ => False) wr (wr.alloc (.cells #[.int .i64 y.kind, .int .i64 y.n, .string y.name, .slice y.at_.1 y.args.length y.at_.2] 27)) := (Turned.refl _ wr).alloc _
                    have hrow := (HI8.out.turned0 TA).row
                    have hnews := news_block (cs := y.cells) (by rw [LT.cells_eq y]; exact heap_alloc_new wr (.cells #[.int .i64 y.kind, .int .i64 y.n, .string y.name, .slice y.at_.1 y.args.length y.at_.2] 27))
                    have HN := Lib.hid hnews
                    have HR9 := Lib.hid hrow
                    have HYG := Lib.hid (And.intro (hyi.turned0 TA) hgy)
                    have HTA := Lib.hid TA
                    have hlen : (ys ++ (x.args.drop (q + 1)).reverse).length ≤ 800200 := by simp; omega
                    clear hy ha hnews hrow TA hgy hyi
                    go_wp2_with (at_builtin; refine append_some _ rfl _ _ 22 rfl 27 i0 zeroT 4 56 Try.underlying22 hi0 hz0 hz1 hz2 rfl (by decide) _ _ _ rfl HR9.out ⟨wr.heap.size, 0, none⟩ 1 1 y.cells rfl (LT.cells_length y) HN.out (LT.cells_one y) (by omega) (by unfold maxLen; omega) (by omega) ?_; intro g5 cap5 w5 hown5 hg5 hloc5)
                    go_roundg q
                    case measure => omega
                    case rel =>
                      have hpush := (HI8.out.turned0 HTA.out).push HYG.out hown5 hg5 (by
                        rcases hloc5 with e | e
                        · exact .inl e
                        · exact .inr (own_new e (by simp)))
                      have hst : ys ++ (x.args.drop (q + 1)).reverse ++ [y] = ys ++ (x.args.drop q).reverse := by
                        rw [List.append_assoc, List.drop_eq_getElem_cons hm, List.reverse_cons]
                        have hy := HY.out
                        rw [List.getElem?_eq_getElem hm] at hy
                        injection hy with hy
                        rw [hy]
                      rw [hst] at hpush
                      have hl5 : (ys ++ (x.args.drop (q + 1)).reverse).length = ys.length + (x.args.length - (q + 1)) := by simp
                      rw [hl5] at hpush
                      refine ⟨by have := HJ.out; show _ ≤ _; omega, rfl, hpush, ?_, ?_, ?_⟩
                      · exact (hg5.block _ (Nat.lt_of_lt_of_le (Array.getElem?_eq_some_iff.1 HB8.out).1 HTA.out.size) (fun e => HO8.out _ e rfl)).trans ((HTA.out.block _ (Array.getElem?_eq_some_iff.1 HB8.out).1 (fun f => f)).trans HB8.out)
                      · show ∀ g', _
                        intro g' hg'
                        rcases hloc5 with e | e
                        · exact HO8.out g' (e.symm.trans hg')
                        · simp [Value.ownBlock] at hg'
                          have h1 := (Array.getElem?_eq_some_iff.1 HB8.out).1
                          simp at e
                          omega
                      · exact LT.In.turned hg5 (fun k _ hk e => by have := HI8.out.own k e; have := HI8.out.plt k hk; omega) (fun _ _ q => q) _ (HX8.out.turned0 HTA.out)
end Go.Proofs.Ytoihjobdfjajfaa
