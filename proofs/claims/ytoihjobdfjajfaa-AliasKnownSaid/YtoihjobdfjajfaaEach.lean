/- each: a term and all that it is made of are told from left to right, till the answer is false. For any closure with a contract. -/
import Derived.Test.YtoihjobdfjajfaaOne
import Derived.Deep.LoopGhost
namespace Go.Proofs.Ytoihjobdfjajfaa
set_option linter.unusedVariables false
set_option linter.unusedSimpArgs false
open Go.RowKit

/-- What is told, and the last answer. -/
def tell {α : Type} (ans : List α → α → Bool) : List α → List α → Bool × List α
  | told, [] => (true, told)
  | told, x :: r => if ans told x then tell ans (told ++ [x]) r else (false, told ++ [x])

/-- A closure's contract, as each wants it: its own blocks M, what they hold when l has been told. -/
structure Told (p : Nat → Prop) (K : FuncId) (capt : Array Value) (t : LT) (M0 : Nat → Prop) (Inv : (Nat → Prop) → List LT → World → Prop) (ans : List LT → LT → Bool) : Prop where
  enter : ∀ (args : Array Value) (w : World), (callFunc K args).run Try.prog w = .ok (.enter K args) w
  lt : ∀ M l w k, Inv M l w → M k → k < w.heap.size
  frame : ∀ M T l w w', Inv M l w → Turned T w w' → (∀ k, k < w.heap.size → T k → ¬ M k) → Inv M l w'
  call : ∀ M l x r w, Inv M l w → l.length ≤ 2002 → t.flat = l ++ x :: r → x.In p w → Calls Try.prog K (#[x.val] ++ capt) w fun e w' => e = .returned (.bool (ans l x)) ∧ ∃ M', Inv M' (l ++ [x]) w' ∧ Turned M w w' ∧ (∀ k, M' k → M k ∨ w.heap.size ≤ k)

/-- The stack of what is still to be told, and what has been. -/
structure EachI (M0 : Nat → Prop) (Inv : (Nat → Prop) → List LT → World → Prop) (w0 : World) (stack told : List LT) (v : Value) (M : Nat → Prop) (w : World) : Prop where
  row : Row w 27 4 v stack.length (stack.flatMap LT.cells)
  own : ∀ g, v.ownBlock = some g → w0.heap.size ≤ g ∧ ¬ M g
  inv : Inv M told w
  sub : ∀ k, M k → M0 k ∨ w0.heap.size ≤ k
  turned : Turned M0 w0 w
  base : w0.heap.size ≤ w.heap.size

section
variable {p : Nat → Prop} {K : FuncId} {capt : Array Value} {t : LT} {M0 : Nat → Prop} {Inv : (Nat → Prop) → List LT → World → Prop} {ans : List LT → LT → Bool} {w0 w : World} {stack told ys : List LT} {v : Value} {M : Nat → Prop} {x y : LT}
theorem EachI.alloc (c : Told p K capt t M0 Inv ans) (h : EachI M0 Inv w0 stack told v M w) (o : Obj) : EachI M0 Inv w0 stack told v M (w.alloc o) :=
  ⟨h.row.alloc o, h.own, c.frame _ _ _ _ _ h.inv ((Turned.refl (fun _ => False) w).alloc o) (fun _ _ f => False.elim f), h.sub, h.turned.alloc o, by simp; have := h.base; omega⟩
theorem EachI.pop {g n cap : Nat} (h : EachI M0 Inv w0 (ys ++ [x]) told (.slice (some ⟨g, 0, none⟩) n cap) M w) : n = ys.length + 1 ∧ EachI M0 Inv w0 ys told (.slice (some ⟨g, 0, none⟩) ys.length cap) M w := by
  have hr := h.row
  have hn : n = ys.length + 1 := by
    rcases hr.2 with ⟨e, _⟩ | ⟨g', c', cur, e, _⟩
    · cases e
    · injection e with _ e _; simp at e; exact e
  subst hn
  have hcap : ys.length ≤ cap := by
    rcases hr.2 with ⟨e, _⟩ | ⟨g', c', cur, e, _, h1, _⟩
    · cases e
    · injection e with _ _ e; subst e; simp at h1; omega
  refine ⟨rfl, ?_, h.own, h.inv, h.sub, h.turned, h.base⟩
  have hr' : Row w 27 4 (.slice (some ⟨g, 0, none⟩) (ys.length + 1) cap) (ys.length + 1) ((ys ++ [x]).flatMap LT.cells) := by simpa using hr
  have ht := hr'.take (m := ys.length) (c := cap) (by omega) hcap (Nat.le_refl _)
  rw [List.flatMap_append, List.take_left' (by rw [LT.flat_length])] at ht
  exact ht
theorem EachI.push {w' : World} {v' : Value} (c : Told p K capt t M0 Inv ans) (h : EachI M0 Inv w0 stack told v M w) (hr : Row w' 27 4 v' (stack.length + 1) (stack.flatMap LT.cells ++ y.cells)) (ht : Turned (fun k => v.ownBlock = some k) w w')
    (ho : v'.ownBlock = v.ownBlock ∨ v'.ownBlock = some w.heap.size) : EachI M0 Inv w0 (stack ++ [y]) told v' M w' := by
  refine ⟨?_, fun g hg => ?_, c.frame _ _ _ _ _ h.inv ht (fun k _ hk => (h.own k hk).2), h.sub, ?_, Nat.le_trans h.base ht.size⟩
  · rw [List.flatMap_append, List.length_append]
    simpa using hr
  · rcases ho with ho | ho
    · rw [ho] at hg; exact h.own g hg
    · rw [ho] at hg
      injection hg with hg; subst hg
      exact ⟨h.base, fun hm => Nat.lt_irrefl _ (c.lt _ _ _ _ h.inv hm)⟩
  · exact h.turned.step ht (fun i hi hk => by have := (h.own i hk).1; omega)
theorem EachI.called {w' : World} {M' : Nat → Prop} (h : EachI M0 Inv w0 stack told v M w) (hi : Inv M' (told ++ [x]) w') (ht : Turned M w w') (hM : ∀ k, M' k → M k ∨ w.heap.size ≤ k) : EachI M0 Inv w0 stack (told ++ [x]) v M' w' := by
  refine ⟨h.row.turned ht (fun k hk => (h.own k hk).2), fun g hg => ⟨(h.own g hg).1, fun hm => ?_⟩, hi, fun k hk => ?_, ?_, Nat.le_trans h.base ht.size⟩
  · rcases hM g hm with hm | hm
    · exact (h.own g hg).2 hm
    · have := h.row.lt g hg; omega
  · rcases hM k hk with hk | hk
    · exact h.sub k hk
    · have := h.base; exact .inr (by omega)
  · refine h.turned.step ht (fun i hi hk => ?_)
    rcases h.sub i hk with hk | hk
    · exact hk
    · omega
end
theorem EachI.top {M0 : Nat → Prop} {Inv : (Nat → Prop) → List LT → World → Prop} {w0 w : World} {told ys : List LT} {M : Nat → Prop} {x : LT} {g n cap : Nat} (h : EachI M0 Inv w0 (ys ++ [x]) told (.slice (some ⟨g, 0, none⟩) n cap) M w) :
    w.cell? ⟨g, ys.length * 4, none⟩ = some (.int .i64 x.kind) ∧ w.cell? ⟨g, ys.length * 4 + 1, none⟩ = some (.int .i64 x.n) ∧ w.cell? ⟨g, ys.length * 4 + 2, none⟩ = some (.string x.name) ∧ w.cell? ⟨g, ys.length * 4 + 3, none⟩ = some (.slice x.at_.1 x.args.length x.at_.2) := by
  have hn := h.pop.1
  subst hn
  have hr : Row w 27 4 (.slice (some ⟨g, 0, none⟩) (ys.length + 1) cap) (ys.length + 1) ((ys ++ [x]).flatMap LT.cells) := by simpa using h.row
  have hi : (ys ++ [x])[ys.length]? = some x := by simp
  refine ⟨hr.cells rfl _ _ ?_, hr.cells rfl _ _ ?_, hr.cells rfl _ _ ?_, hr.cells rfl _ _ ?_⟩
  · have := LT.flat_at hi 0 (by omega); rw [Nat.add_zero] at this; rw [this, LT.cells_eq]; rfl
  · rw [LT.flat_at hi 1 (by omega), LT.cells_eq]; rfl
  · rw [LT.flat_at hi 2 (by omega), LT.cells_eq]; rfl
  · rw [LT.flat_at hi 3 (by omega), LT.cells_eq]; rfl
theorem Tm.sizes_reverse {α : Type} (l : List (Tm α)) : Tm.sizes l.reverse = Tm.sizes l := by
  induction l with
  | nil => rfl
  | cons x l ih => rw [List.reverse_cons, Tm.sizes_append, ih]; simp only [Tm.sizes]; omega
theorem tell_cons {α : Type} (ans : List α → α → Bool) (told : List α) (x : α) (r : List α) : tell ans told (x :: r) = if ans told x then tell ans (told ++ [x]) r else (false, told ++ [x]) := rfl

set_option maxRecDepth 100000 in
set_option maxHeartbeats 1600000 in
theorem each124 {p : Nat → Prop} {K : FuncId} {capt : Array Value} {t : LT} {M0 : Nat → Prop} {Inv : (Nat → Prop) → List LT → World → Prop} {ans : List LT → LT → Bool} {w : World} {M : Nat → Prop}
    (c : Told p K capt t M0 Inv ans) (ht : t.In p w) (hp : ∀ k, p k → ¬ M0 k) (hi : Inv M [] w) (hM : ∀ k, M k → M0 k)
    (hA : ∀ x ∈ t.flat, x.args.length ≤ 12) (hN : ∀ l x r, t.flat = l ++ x :: r → ans l x = true → l.length ≤ 2001) :
    Calls Try.prog 124 #[t.val, .func (.func K) #[] capt] w fun e w' => e = .returned (.bool (tell ans [] t.flat).1) ∧ ∃ M', Inv M' (tell ans [] t.flat).2 w' ∧ (∀ k, M' k → M0 k ∨ w.heap.size ≤ k) ∧ Turned M0 w w' := by
  obtain ⟨i0, hi0, hz0, hz1, hz2⟩ := info_parts infoT
  rw [LT.val_eq]
  go_enter Try.func124, Try.ntmps124
  go_wp2_with fail
  have hst : EachI M0 Inv w [t] [] (.slice (some ⟨w.heap.size + 1, 0, none⟩) 1 1) M ((w.alloc (.cells #[.int .i64 t.kind, .int .i64 t.n, .string t.name, .slice t.at_.1 t.args.length t.at_.2] 27)).alloc (.cells #[.int .i64 t.kind, .int .i64 t.n, .string t.name, .slice t.at_.1 t.args.length t.at_.2] 27)) := by
    refine ⟨?_, fun g hg => ?_, ?_, fun k hk => .inl (hM k hk), ((Turned.refl _ _).alloc _).alloc _, by simp; omega⟩
    · have := Row.made (w.alloc (.cells #[.int .i64 t.kind, .int .i64 t.n, .string t.name, .slice t.at_.1 t.args.length t.at_.2] 27)) 27 4 #[.int .i64 t.kind, .int .i64 t.n, .string t.name, .slice t.at_.1 t.args.length t.at_.2] 1 rfl (by unfold maxLen; omega)
      simpa [LT.cells_eq] using this
    · simp [Value.ownBlock] at hg
      subst hg
      exact ⟨by omega, fun hm => by have := c.lt _ _ _ _ hi hm; omega⟩
    · exact c.frame _ _ _ _ _ hi (((Turned.refl (fun _ => False) w).alloc _).alloc _) (fun _ _ f => False.elim f)
  revert hst
  generalize ((w.alloc (.cells #[.int .i64 t.kind, .int .i64 t.n, .string t.name, .slice t.at_.1 t.args.length t.at_.2] 27)).alloc (.cells #[.int .i64 t.kind, .int .i64 t.n, .string t.name, .slice t.at_.1 t.args.length t.at_.2] 27)) = w1
  intro hst
  go_loopg [5] (Tm.sizes [t]) (fun k v wr => ∃ (stack told : List LT) (M' : Nat → Prop), Hid (Tm.sizes stack = k) ∧ EachI M0 Inv w stack told v M' wr ∧ Hid (t.flat = told ++ Tm.flats stack.reverse) ∧ Hid (tell ans [] t.flat = tell ans told (Tm.flats stack.reverse)) ∧ Hid (stack.length ≤ 1 + 12 * told.length ∧ told.length ≤ 2002))
  case atStart =>
    refine ⟨[t], [], M, rfl, hst, ?_, ?_, ?_⟩
    · show _ = _; simp [Tm.flats]
    · show _ = _; simp [Tm.flats]
    · show _ ∧ _; simp
  case round =>
    obtain ⟨stack, told, M', HK, hE, HF, HT, HL⟩ := hrel
    obtain ⟨wo, rfl⟩ : ∃ wo : World, wo = wr := ⟨_, rfl⟩
    obtain ⟨go, rfl⟩ : ∃ go : Nat, go = gk := ⟨_, rfl⟩
    rcases List.eq_nil_or_concat stack with rfl | ⟨ys, x, rfl⟩
    · obtain ⟨a, cap, rfl⟩ := hE.row.shape
      go_wp2_with fail
      have hF := HF.out
      have hT := HT.out
      simp only [List.reverse_nil, Tm.flats, List.append_nil] at hF hT
      go_ret
      rw [hT]
      exact ⟨rfl, M', by rw [tell]; exact hE.inv, hE.sub, hE.turned⟩
    · rw [List.concat_eq_append] at HK HF HT HL hE
      rw [Tm.flats_todo] at HF HT
      obtain ⟨g, cap, rfl⟩ := hE.row.shape_pos (by simp)
      have hxt : x ∈ t.flat := by rw [HF.out]; simp
      have hA1 := hA x hxt
      obtain ⟨hn, hE1⟩ := hE.pop
      obtain ⟨c0, c1, c2, c3⟩ := hE.top
      have hxin : x.In (fun k => p k ∧ k < w.heap.size) wo := LT.In.turned hE.turned (fun k _ hk hm => hp k hk hm) (fun k hk h => ⟨h, hk⟩) x (LT.In.flat t ht x hxt)
      have hcap : ys.length ≤ cap ∧ cap ≤ 9223372036854775807 := by
        rcases hE1.row.2 with ⟨e, _⟩ | ⟨g', c', cur, e, _, h1, h2, _⟩
        · cases e
        · injection e with _ _ e; subst e; unfold maxLen at h2; omega
      obtain ⟨hc1, hc2⟩ := hcap
      have hE2 := hE1.alloc c (.cells #[.int .i64 x.kind, .int .i64 x.n, .string x.name, .slice x.at_.1 x.args.length x.at_.2] 27)
      have hbox := boxed wo #[.int .i64 x.kind, .int .i64 x.n, .string x.name, .slice x.at_.1 x.args.length x.at_.2] 27
      have hys : ys.length ≤ 24100 := by have := HL.out; simp at this; omega
      rw [List.length_append, List.length_singleton]
      have HE1 := Lib.hid hE1
      have HE := Lib.hid hE
      have HE2 := Lib.hid hE2
      have HXI := Lib.hid hxin
      have HBX := Lib.hid hbox
      clear hE hE1 hE2 hxin hbox hn
      have henter := c.enter
      have hcall := c.call M' told x _ _ HE2.out.inv HL.out.2 HF.out (HXI.out.turned0 ((Turned.refl _ wo).alloc (.cells #[.int .i64 x.kind, .int .i64 x.n, .string x.name, .slice x.at_.1 x.args.length x.at_.2] 27)) |>.mono (fun k _ h => h.1))
      rw [LT.val_eq] at hcall
      have HCALL := Lib.hid hcall
      clear hcall
      have hbx : ∀ W, Turned M' (wo.alloc (.cells #[.int .i64 x.kind, .int .i64 x.n, .string x.name, .slice x.at_.1 x.args.length x.at_.2] 27)) W → W.cell? ⟨wo.heap.size, 3, none⟩ = some (.slice x.at_.1 x.args.length x.at_.2) := fun W hW =>
        hW.cell (HBX.out 3) (fun hm => Nat.lt_irrefl _ (c.lt _ _ _ _ HE.out.inv hm))
      have HBW := Lib.hid hbx
      clear hbx
      have hlm := (LT.In.flat t ht x hxt).len
      have hal : x.args.length ≤ 9223372036854775807 := by omega
      go_wp2_with (with_reducible refine (HCALL.out).mono ?_; rintro e w2 ⟨rfl, M2, hI2, hT2, hM2⟩; have hb3 := HBW.out _ hT2)
      rotate_right
      · have hans : ans told x = true := by simpa using (by assumption : (!ans told x) = false)
        rename_i hq
        clear hq
        have HANS := Lib.hid hans
        clear hans
        have hE3 := HE2.out.called hI2 hT2 hM2
        have hbw : wo.heap.size < w2.heap.size := by have := hT2.size; simp at this; omega
        go_loopg [5, 7] x.args.length (fun j v i wr2 => Hid (j ≤ x.args.length) ∧ i = .int .i64 ((j : Int) - 1) ∧ EachI M0 Inv w (ys ++ (x.args.drop j).reverse) (told ++ [x]) v M2 wr2 ∧ wr2.cell? ⟨wo.heap.size, 3, none⟩ = some (.slice x.at_.1 x.args.length x.at_.2) ∧ (∀ g, v.ownBlock = some g → g ≠ wo.heap.size) ∧ wo.heap.size < wr2.heap.size)
        case atStart =>
          refine ⟨Nat.le_refl _, rfl, by simpa using hE3, hb3, fun g' hg' e => ?_, hbw⟩
          subst e
          exact Nat.lt_irrefl _ (HE1.out.row.lt _ hg')
        case round =>
          obtain ⟨HJ, hi, hE4, hb4, hown4, hsz4⟩ := hrel
          have hxin : x.In (fun k => p k ∧ k < w.heap.size) wr := LT.In.turned hE4.turned (fun k _ hk hm => hp k hk hm) (fun k hk h => ⟨h, hk⟩) x (LT.In.flat t ht x hxt)
          obtain ⟨a4, cap4, rfl⟩ := hE4.row.shape
          rcases gk with _ | m
          · rw [show (((0 : Nat) : Int) - 1) = -1 from rfl] at hi
            subst hi
            go_wp2_with fail
            go_roundg (Tm.sizes (ys ++ x.args.reverse))
            case measure =>
              have hk := HK.out
              rw [Tm.sizes_append] at hk ⊢
              rw [Tm.sizes_reverse, ← hk]
              have := Tm.size_eq x
              simp only [Tm.sizes]; omega
            case rel =>
              have hL := HL.out
              have hF := HF.out
              have hT := HT.out
              rw [tell_cons, HANS.out, if_pos rfl] at hT
              have h01 := hN told x _ hF HANS.out
              refine ⟨ys ++ x.args.reverse, told ++ [x], M2, rfl, by simpa using hE4, ?_, hT, ?_⟩
              · show _ = _; rw [hF]; simp
              · show _ ∧ _; simp at hL ⊢; omega
          · rw [show (((m + 1 : Nat) : Int) - 1) = (m : Int) from by omega] at hi
            subst hi
            have hm : m < x.args.length := by have := HJ.out; omega
            have hy : x.args[m]? = some x.args[m] := List.getElem?_eq_getElem hm
            obtain ⟨y, hye⟩ : ∃ y : LT, y = x.args[m] := ⟨_, rfl⟩
            rw [← hye] at hy
            clear hye
            obtain ⟨b, o, ha, _, d0, d1, d2, d3⟩ := hxin.lies.cell hy
            rw [ha] at hb4
            have HY := Lib.hid hy
            have HAd := Lib.hid ha
            have HE4 := Lib.hid hE4
            have hrow := (hE4.alloc c (.cells #[.int .i64 y.kind, .int .i64 y.n, .string y.name, .slice y.at_.1 y.args.length y.at_.2] 27)).row
            have hnews : ∀ j u, y.cells[j]? = some u → (wr.alloc (.cells #[.int .i64 y.kind, .int .i64 y.n, .string y.name, .slice y.at_.1 y.args.length y.at_.2] 27)).cell? ((⟨wr.heap.size, 0, none⟩ : Addr).add j) = some u := by
              intro j u hu
              rw [Addr.add_lit, Nat.zero_add, boxed]
              rw [LT.cells_eq] at hu
              simpa using hu
            have HN := Lib.hid hnews
            have HR := Lib.hid hrow
            have hlen : (ys ++ (x.args.drop (m + 1)).reverse).length ≤ 24200 := by simp; omega
            clear hy ha hE4 hnews hrow hxin
            go_wp2_with (at_builtin; refine append_some _ rfl _ _ 22 rfl 27 i0 zeroT 4 56 Try.underlying22 hi0 hz0 hz1 hz2 rfl (by decide) _ _ _ rfl HR.out ⟨wr.heap.size, 0, none⟩ 1 1 y.cells rfl (LT.cells_length y) HN.out (LT.cells_one y) (by omega) (by unfold maxLen; omega) (by omega) ?_; intro g5 cap5 w5 hown5 hg5 hloc5)
            go_roundg m
            case measure => omega
            case rel =>
              have hE5 := (HE4.out.alloc c (.cells #[.int .i64 y.kind, .int .i64 y.n, .string y.name, .slice y.at_.1 y.args.length y.at_.2] 27)).push c hown5 hg5 (by
                rcases hloc5 with e | e
                · exact .inl e
                · exact .inr (by rw [e]; rfl))
              have hst : ys ++ (x.args.drop (m + 1)).reverse ++ [y] = ys ++ (x.args.drop m).reverse := by
                rw [List.append_assoc, List.drop_eq_getElem_cons hm, List.reverse_cons]
                have hy := HY.out
                rw [List.getElem?_eq_getElem hm] at hy
                injection hy with hy
                rw [hy]
              rw [hst] at hE5
              have hl5 : (ys ++ (x.args.drop (m + 1)).reverse).length = ys.length + (x.args.length - (m + 1)) := by simp
              rw [hl5] at hE5
              refine ⟨by have := HJ.out; show _ ≤ _; omega, rfl, hE5, ?_, ?_, ?_⟩
              · rw [HAd.out]
                exact hg5.cell (cell_old hb4) (fun e => hown4 _ e rfl)
              · intro g' hg'
                rcases hloc5 with e | e
                · exact hown4 g' (e.symm.trans hg')
                · simp [Value.ownBlock] at hg'; simp at e; omega
              · have := hg5.size; simp at this; omega
      · have hans : ans told x = false := by simpa using (by assumption : (!ans told x) = true)
        have hF := HF.out
        have hT := HT.out
        rw [tell_cons, hans, if_neg (by simp)] at hT
        have hE3 := HE2.out.called hI2 hT2 hM2
        go_ret
        rw [hT]
        exact ⟨rfl, M2, hE3.inv, hE3.sub, hE3.turned⟩
end Go.Proofs.Ytoihjobdfjajfaa
