/- Index: Drop, Pick on what lies in memory. -/
import Derived.Test.YtoihjobdfjajfaaIdx
namespace Go.Proofs.Ytoihjobdfjajfaa
set_option linter.unusedVariables false
set_option linter.unusedSimpArgs false
open Go.RowKit Go.Maps
attribute [local go_sem ↓] Go.wp_at_zero Go.wp_at_succ

/-- Whether a place may be let go. -/
def dropB (n : Nat) (gone : List Int) (i : Int) : Bool := decide (0 ≤ i) && (decide (i < n) && !decide (i ∈ gone))
set_option maxRecDepth 100000 in
set_option maxHeartbeats 800000 in
theorem drop55 {xb mb : Nat} {v : Value} {ks : List Key} {gone : List Int} {w : World} (h : IdxIn xb mb v ks gone w) (i : Int) (hi : I64 i) (hn : gone.length ≤ 100000) :
    Calls Try.prog 55 #[.pointer (some ⟨xb, 0, none⟩), .int .i64 i] w fun e w' => e = .returned (.bool (dropB ks.length gone i)) ∧ IdxIn xb mb v ks (if dropB ks.length gone i then gone ++ [i] else gone) w' ∧ Turned (MineX xb mb v) w w' := by
  obtain ⟨a, cap, rfl⟩ := h.row.shape
  obtain ⟨c0, c1, f0⟩ := cells2 h.blk
  have hm := (Row.max h.row)
  have hm1 := hm.1
  have hm2 := hm.2
  have hkey := key3 hi
  have hlk : (Instr.lookup 145 (.map (some mb)) (.int .i64 i) false).run Try.prog w = .ok (.bool (decide (i ∈ gone))) w := by
    rw [h.map.look law3 Try.underlying145 (zero4 _) hkey, inSet_get]
  have H := Lib.hid h
  clear h hm
  by_cases h0 : i < 0
  · have HR : Hid (dropB ks.length gone i = false) := by show _ = _; unfold dropB; simp; omega
    have hd : decide (i < 0) = true := by simpa using h0
    clear h0
    rw [HR.out, if_neg (by decide)]
    go_enter Try.func55, Try.ntmps55
    go_wp2_with fail
    go_ret
    exact ⟨rfl, H.out, Turned.refl _ _⟩
  · have hd : decide (i < 0) = false := by simpa using h0
    by_cases h1 : (ks.length : Int) ≤ i
    · have HR : Hid (dropB ks.length gone i = false) := by show _ = _; unfold dropB; simp; omega
      have hd1 : decide ((ks.length : Int) ≤ i) = true := by simpa using h1
      clear h0 h1
      rw [HR.out, if_neg (by decide)]
      go_enter Try.func55, Try.ntmps55
      go_wp2_with fail
      go_ret
      exact ⟨rfl, H.out, Turned.refl _ _⟩
    · have hd1 : decide ((ks.length : Int) ≤ i) = false := by simpa using h1
      by_cases h2 : i ∈ gone
      · have HR : Hid (dropB ks.length gone i = false) := by show _ = _; unfold dropB; simp [h2]
        have hd2 : decide (i ∈ gone) = true := by simpa using h2
        rw [hd2] at hlk
        clear h0 h1 h2 hd2
        rw [HR.out, if_neg (by decide)]
        go_enter Try.func55, Try.ntmps55
        go_wp2_with fail
        go_ret
        exact ⟨rfl, H.out, Turned.refl _ _⟩
      · have HR : Hid (dropB ks.length gone i = true) := by show _ = _; unfold dropB; simp [h2]; omega
        have hd2 : decide (i ∈ gone) = false := by simpa using h2
        rw [hd2] at hlk
        have HM := Lib.hid h2
        clear h0 h1 h2 hd2
        rw [HR.out, if_pos rfl]
        go_enter Try.func55, Try.ntmps55
        go_wp2_with (first
          | (at_mapUpdate; refine wpList_put rfl _ _ _ 145 rfl law3 Try.underlying145 rfl H.out.map (by unfold maxLen; omega) rfl rfl hkey trivial ?_; intro w1 hmap1 T1; have HM1 := Lib.hid hmap1; clear hmap1))
        go_ret
        have hx := H.out
        refine ⟨rfl, ⟨?_, ?_, ?_, hx.apart⟩, T1.mono (fun j _ e => .inr (.inl e))⟩
        · exact (T1.block xb (hx.lt xb (.inl rfl)) (fun e => hx.ne.1 e.symm)).trans hx.blk
        · exact hx.row.turned T1 (fun j e1 e2 => hx.ne.2 (by rw [e1, e2]))
        · have hm : IMap Try.prog 3 w1 mb (if (inSet gone i).isSome then gone.length else gone.length + 1) (upd (inSet gone) i (.bool true)) := HM1.out
          have hf : inSet gone i = none := by unfold inSet; rw [if_neg HM.out]
          rw [hf, inSet_snoc] at hm
          simpa using hm

/-- What of the places that may fit is there. -/
def thereB (gone : List Int) (l : List Int) : List Int := l.filter fun i => !decide (i ∈ gone)
def PickXR (w0 : World) (gone ps : List Int) (g : Nat) (v i : Value) (wr : World) : Prop :=
  ∃ j : Nat, Hid (j + g = ps.length) ∧ j ≤ ps.length ∧ i = .int .i64 j ∧ Row wr 3 1 v (thereB gone (ps.take j)).length ((thereB gone (ps.take j)).map (Value.int .i64)) ∧ (∀ b, v.ownBlock = some b → w0.heap.size ≤ b) ∧ Turned (fun _ => False) w0 wr
theorem pickB_mem {k : Key} {l : List Key} {i : Nat} {p : Int} (h : p ∈ pickB k l i) : (i : Int) ≤ p ∧ p < ((i + l.length : Nat) : Int) := by
  induction l generalizing i with
  | nil => simp [pickB] at h
  | cons x l ih =>
    simp only [pickB] at h
    have hr : p ∈ pickB k l (i + 1) → (i : Int) ≤ p ∧ p < ((i + (x :: l).length : Nat) : Int) := fun h' => by
      have := ih h'
      simp only [List.length_cons]
      omega
    split at h
    · rcases List.mem_cons.1 h with rfl | h
      · simp only [List.length_cons]; omega
      · exact hr h
    · exact hr h
theorem Row.ksl {w : World} {a : Option Addr} {c : Nat} {ks : List Key} (h : Row w 35 4 (.slice a ks.length c) ks.length (ks.flatMap Key.cells)) : KSl w a c ks := by
  have hm := h.max
  rcases h.2 with ⟨e, e0⟩ | ⟨g, cap, cur, e, hg, _⟩
  · injection e with e1 _ e2
    exact ⟨fun _ => ⟨e0, e2⟩, fun hp => by omega, hm.1, hm.2⟩
  · injection e with e1 _ e2
    subst e1
    refine ⟨(fun e => by cases e), fun hp => ⟨g, 0, rfl, fun j u hu => ?_⟩, hm.1, hm.2⟩
    rw [Nat.zero_add]
    exact h.cells rfl j u hu

set_option maxRecDepth 100000 in
set_option maxHeartbeats 3200000 in
theorem pickX59 {xb mb : Nat} {v : Value} {ks : List Key} {gone : List Int} {w : World} (h : IdxIn xb mb v ks gone w) (k : Key) (hn : ks.length ≤ 60000) :
    Calls Try.prog 59 #[.pointer (some ⟨xb, 0, none⟩), k.val] w fun e w' => ∃ r, e = .returned r ∧ Row w' 3 1 r (thereB gone (pickB k ks 0)).length ((thereB gone (pickB k ks 0)).map (Value.int .i64)) ∧ (∀ b, r.ownBlock = some b → w.heap.size ≤ b) ∧ Turned (fun _ => False) w w' := by
  obtain ⟨a, cap, rfl⟩ := h.row.shape
  have hlx := h.lt xb (.inl rfl)
  obtain ⟨ps, hps⟩ : ∃ ps, ps = pickB k ks 0 := ⟨_, rfl⟩
  have hpl := pickB_le k ks 0
  have hpm : ∀ (j : Nat) p, ps[j]? = some p → I64 p := fun j p hj => by
    have h1 := pickB_mem (hps ▸ (List.mem_of_getElem? hj))
    have : ks.length ≤ 60000 := hn
    unfold I64
    omega
  have HPM := Lib.hid hpm
  have HPS := Lib.hid hps
  rw [← hps] at hpl ⊢
  clear hpm
  have T1 := (Turned.refl (fun _ => False) w).alloc (.cells #[.int .i64 k.kind, .int .i64 k.n, .string k.name, .int .i64 k.arity] 35)
  have hbx := fun W (h : Turned (fun _ => False) (w.alloc (.cells #[.int .i64 k.kind, .int .i64 k.n, .string k.name, .int .i64 k.arity] 35)) W) => (box4 h)
  have H := Lib.hid h
  have HT := Lib.hid T1
  have HB := Lib.hid hbx
  clear h T1 hbx
  unfold Key.val
  go_enter Try.func59, Try.ntmps59
  go_wp2_with fail
  revert HT HB
  generalize w.alloc (.cells #[.int .i64 k.kind, .int .i64 k.n, .string k.name, .int .i64 k.arity] 35) = w1
  intro HT HB
  have hkeep : ∀ W, Turned (fun _ => False) w1 W → Turned (fun _ => False) w1 W ∧ W.cell? ⟨xb, 0, none⟩ = some (.slice a ks.length cap) ∧ W.cell? ⟨w.heap.size, 0, none⟩ = some (.int .i64 k.kind) ∧ W.cell? ⟨w.heap.size, 1, none⟩ = some (.int .i64 k.n) ∧ W.cell? ⟨w.heap.size, 2, none⟩ = some (.string k.name) ∧ W.cell? ⟨w.heap.size, 3, none⟩ = some (.int .i64 k.arity) := fun W hW => by
    obtain ⟨q0, _, _⟩ := cells2 (H.out.turned0 (HT.out.trans hW)).blk
    obtain ⟨b0, b1, b2, b3, _⟩ := cells4 (HB.out W hW).1
    exact ⟨hW, q0, b0, b1, b2, b3⟩
  have HKP := Lib.hid hkeep
  have hpick := fun W (hW : Turned (fun _ => False) w1 W) => pick60 k (Row.ksl (H.out.turned0 (HT.out.trans hW)).row) (by omega)
  unfold Key.val at hpick
  rw [← hps] at hpick
  have HPK := Lib.hid hpick
  clear hkeep hpick hps
  go_region_held3 (fun W => Turned (fun _ => False) w1 W ∧ W.cell? ⟨xb, 0, none⟩ = some (.slice a ks.length cap) ∧ W.cell? ⟨w.heap.size, 0, none⟩ = some (.int .i64 k.kind) ∧ W.cell? ⟨w.heap.size, 1, none⟩ = some (.int .i64 k.n) ∧ W.cell? ⟨w.heap.size, 2, none⟩ = some (.string k.name) ∧ W.cell? ⟨w.heap.size, 3, none⟩ = some (.int .i64 k.arity))
    (first
      | exact HKP.out _ (Turned.refl _ _).drew
      | exact HKP.out _ ((Turned.refl _ _).drew.trans T2))
    ((go_at_call 60; (with_reducible refine (HPK.out _ (Turned.refl _ _).drew).mono ?_); rintro e w2 ⟨r2, rfl, hr2, hn2, T2⟩; obtain ⟨a2, c2, rfl⟩ := hr2.shape))
  go_ways

  have HR2 := Lib.hid hr2
  have Tww := Lib.hid (HT.out.trans ((Turned.refl _ _).drew.trans T2))
  have HX2 := Lib.hid (H.out.turned0 Tww.out)
  have hcap2 := hr2.max
  clear hr2
  clear HB HKP HPK HT T2
  have hs2 : w.heap.size ≤ w2.heap.size := Tww.out.size
  go_wp2_with fail
  go_loopg [5, 15] ps.length (fun g v i wr => PickXR w2 gone ps g v i wr)
  case atStart => exact ⟨0, Nat.zero_add _, Nat.zero_le _, rfl, Row.nil _ _ _, fun b hb => by simp [Value.ownBlock] at hb, Turned.refl _ _⟩
  case round =>
    obtain ⟨j, HG, hj, rfl, hrow, hown, Tr⟩ := hrel
    obtain ⟨wo, rfl⟩ : ∃ wo : World, wo = wr := ⟨_, rfl⟩
    obtain ⟨v3, cv, rfl⟩ := hrow.shape
    have hpl2 : (thereB gone (ps.take j)).length ≤ 65536 := by
      have := List.length_filter_le (fun i => !decide (i ∈ gone)) (ps.take j)
      unfold thereB
      rw [List.length_take] at this
      omega
    have HROW := Lib.hid hrow
    clear hrow
    by_cases hjl : j < ps.length
    · have hx : ps[j]? = some ps[j] := List.getElem?_eq_getElem hjl
      obtain ⟨p, hpe⟩ : ∃ p, p = ps[j] := ⟨_, rfl⟩
      rw [← hpe] at hx
      clear hpe
      have hkey := key3 (HPM.out j p hx)
      obtain ⟨g2, cc2, he⟩ := HR2.out.shape_pos (by omega)
      injection he with he1 _ he2
      subst he1 he2
      have hcell := (HR2.out.turned0 Tr).cells rfl j _ (by rw [List.getElem?_map, hx]; rfl)
      have hxo := HX2.out.turned0 Tr
      obtain ⟨q0, q1, _⟩ := cells2 hxo.blk
      have hlk : (Instr.lookup 145 (.map (some mb)) (.int .i64 p) false).run Try.prog wo = .ok (.bool (decide (p ∈ gone))) wo := by
        rw [hxo.map.look law3 Try.underlying145 (zero4 _) hkey, inSet_get]
      have hts : thereB gone (ps.take (j + 1)) = thereB gone (ps.take j) ++ (if p ∈ gone then [] else [p]) := by
        rw [take_snoc' _ _ _ hx]
        unfold thereB
        rw [List.filter_append]
        by_cases h : p ∈ gone <;> simp [h]
      have HTS := Lib.hid hts
      clear hts hxo hx
      by_cases hm : p ∈ gone
      · have hd : decide (p ∈ gone) = true := by simpa using hm
        rw [hd] at hlk
        have HM := Lib.hid hm
        clear hm hd
        go_wp2_with fail
        go_roundg (gk - 1)
        case measure => have := HG.out; omega
        case rel =>
          refine ⟨j + 1, show _ = _ by have := HG.out; omega, by omega, by go_num, ?_, hown, Tr⟩
          rw [HTS.out, if_pos HM.out, List.append_nil]
          exact HROW.out
      · have hd : decide (p ∈ gone) = false := by simpa using hm
        rw [hd] at hlk
        obtain ⟨i0, hi0, hz0, hz1, hz2⟩ := info_parts infoN
        have HM := Lib.hid hm
        clear hm hd
        go_wp2_with (first
          | (at_builtin; refine append_some _ rfl _ _ 61 rfl 3 i0 (.int .i64 0) 1 8 Try.underlying61 hi0 hz0 hz1 hz2 rfl (by decide) _ _ _ rfl (HROW.out.alloc _) ⟨wo.heap.size, 0, none⟩ 1 1 [.int .i64 p] rfl rfl (cell_one_new _ _ _) (by simp [Value.oneCell']) (by omega) (by unfold maxLen; omega) (by omega) ?_; intro g6 cap6 w6 hown6 T6 hloc6))
        go_roundg (gk - 1)
        case measure => have := HG.out; omega
        case rel =>
          have hs0 := Tr.size
          refine ⟨j + 1, show _ = _ by have := HG.out; omega, by omega, by go_num, ?_, fun b' hb' => ?_, ?_⟩
          · rw [HTS.out, if_neg HM.out, List.length_append, List.length_singleton, List.map_append]
            exact hown6
          · rcases hloc6 with e | e
            · exact hown b' (e.symm.trans hb')
            · simp [Value.ownBlock] at hb'; simp at e; omega
          · refine (Tr.trans ((Turned.refl _ wo).alloc _)).step T6 (fun i hi h3 => ?_)
            have := hown i h3
            omega
    · have hje : j = ps.length := by omega
      go_wp2_with fail
      go_ret
      have hr := HROW.out
      rw [hje, List.take_length] at hr
      refine ⟨_, rfl, ?_, fun b hb => ?_, Tww.out.trans Tr⟩
      · rw [hje, List.take_length]; exact hr
      · have := hown b hb; omega
end Go.Proofs.Ytoihjobdfjajfaa
