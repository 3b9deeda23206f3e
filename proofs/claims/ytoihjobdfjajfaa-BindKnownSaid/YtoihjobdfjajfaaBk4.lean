/- Merged texts: BK2. -/
import Derived.Test.YtoihjobdfjajfaaBk3
namespace Go.Proofs.Ytoihjobdfjajfaa
open Go.RowKit Go.Maps
set_option linter.unusedVariables false
set_option linter.unusedSimpArgs false
theorem both70 (w : World) : Calls Try.prog 97 #[.int .i64 70] w fun e w' => ∃ bb wb, e = .returned (.tuple #[.pointer (some ⟨bb, 0, none⟩), .pointer (some ⟨wb, 0, none⟩)]) ∧ BK 70 bb [] [] [] w w' ∧ Turned (fun _ => False) w w' := by
  refine (both97 70 (by omega) w).mono ?_
  rintro e w' ⟨bb, wb, rfl, h⟩
  exact ⟨bb, wb, rfl, BK.start h.binds, h.old⟩
namespace Tm
abbrev bkF : Tm Unit := .mk 2 0 ⟨#[102]⟩ () [V 1]
abbrev bkG : Tm Unit := .mk 2 0 ⟨#[103]⟩ () [V 0]
abbrev bkP : Tm Unit := .mk 2 0 ⟨#[112]⟩ () [V 0, .mk 1 1 ByteArray.empty () []]
abbrev tr1 : Trail := [(0, bkF)]
abbrev tr2 : Trail := [(1, V 2), (0, bkF)]
def bkD (j : Nat) : Tm Unit := .mk 2 0 ⟨#[100]⟩ () [V ((j + 1 : Nat) : Int), V ((j + 1 : Nat) : Int)]
def trL : Nat → Trail
  | 0 => tr1
  | j + 1 => (((j + 3 : Nat) : Int), bkD (j + 3)) :: trL j
end Tm
theorem bk_a : Tm.setE 70 [] 70 (leaf 1 1 ByteArray.empty).bare = 1 := by kernel_rfl
theorem bk_c : Tm.setE 70 [] 0 (leaf 0 70 ByteArray.empty).bare = 1 := by kernel_rfl
theorem bk_d : Tm.setE 70 [] 0 (leaf 9 0 ByteArray.empty).bare = 1 := by kernel_rfl
theorem bk_e : Tm.setE 70 [] 0 (leaf 0 0 ByteArray.empty).bare = 5 := by kernel_rfl
theorem bk_f : Tm.setE 70 [] 0 Tm.bkF = 0 := by kernel_rfl
theorem bk_g : Tm.setE 70 Tm.tr1 0 (leaf 1 1 ByteArray.empty).bare = 8 := by kernel_rfl
theorem bk_h : Tm.setE 70 Tm.tr1 1 Tm.bkG = 5 := by kernel_rfl
theorem bk_i : Tm.setE 70 Tm.tr1 1 (leaf 0 2 ByteArray.empty).bare = 0 := by kernel_rfl
theorem bk_j : wholeE 70 Tm.tr2 (leaf 0 0 ByteArray.empty).bare = 0 := by kernel_rfl
theorem bk_w : wholeT 70 Tm.tr2 (leaf 0 0 ByteArray.empty).bare = .mk 2 0 ⟨#[102]⟩ () [Tm.V 2] := by kernel_rfl
theorem bk_k : hasR 70 Tm.tr2 2 (leaf 0 0 ByteArray.empty).bare 100 = (true, 2) := by kernel_rfl
theorem bk_m : hasR 70 Tm.tr2 3 Tm.bkP 100 = (false, 4) := by kernel_rfl
theorem bk_o : hasR 70 Tm.tr2 3 Tm.bkP 2 = (true, 3) := by kernel_rfl
theorem bk_s : Tm.walkT Tm.tr1 (leaf 0 1 ByteArray.empty).bare = Tm.V 1 := Tm.walkT_stop (t := Tm.V 1) (fun _ => by kernel_rfl)
theorem bk_t : wholeE 70 (Tm.trL 12) (leaf 0 3 ByteArray.empty).bare = 12 := by kernel_rfl
theorem bk_u : wholeE 70 (Tm.trL 12) (leaf 0 12 ByteArray.empty).bare = 0 := by kernel_rfl
theorem slim_two (s : ByteArray) (d : Option Addr × Nat) (m n : Int) (e : ByteArray) : slim (Tm.mk 2 0 s d [leaf 0 m e, leaf 0 n e] : LT) := by
  intro x hx
  rw [show (Tm.mk 2 0 s d [leaf 0 m e, leaf 0 n e] : LT).flat = [Tm.mk 2 0 s d [leaf 0 m e, leaf 0 n e], leaf 0 m e, leaf 0 n e] from rfl] at hx
  simp only [List.mem_cons, List.not_mem_nil, or_false] at hx
  rcases hx with rfl | rfl | rfl <;> simp [Tm.args, leaf]
theorem bk_x : ∀ j, j < 12 → Tm.setE 70 (Tm.trL j) ((j + 3 : Nat) : Int) (Tm.bkD (j + 3)) = 0 := by
  have : (List.range 12).all (fun j => decide (Tm.setE 70 (Tm.trL j) ((j + 3 : Nat) : Int) (Tm.bkD (j + 3)) = 0)) = true := by kernel_rfl
  intro j hj
  rw [List.all_eq_true] at this
  simpa using this j (List.mem_range.2 hj)
theorem bk_y {bb : Nat} {bx : List (Nat × Obj)} {ts : List LT} {wA w1 w : World} {j : Nat} {a : Option Addr} {c : Nat} (h : BK 70 bb (Tm.trL j) bx ts wA w1) (T : Turned (fun _ => False) w1 w) (hj : j < 12)
    (hx : LT.In (fun k => w1.heap.size ≤ k) w (Tm.mk 2 0 ⟨#[100]⟩ (a, c) [leaf 0 ((j : Int) + 3 + 1) ByteArray.empty, leaf 0 ((j : Int) + 3 + 1) ByteArray.empty])) :
    Calls Try.prog 88 #[.pointer (some ⟨bb, 0, none⟩), .int .i64 ((j : Int) + 3), .agg #[.int .i64 2, .int .i64 0, .string ⟨#[100]⟩, .slice a 2 c]] w fun e w' => e = .returned (.int .i64 0) ∧ BK 70 bb (Tm.trL (j + 1)) bx ts wA w' := by
  have hb : (Tm.mk 2 0 ⟨#[100]⟩ (a, c) [leaf 0 ((j : Int) + 3 + 1) ByteArray.empty, leaf 0 ((j : Int) + 3 + 1) ByteArray.empty] : LT).bare = Tm.bkD (j + 3) := by
    show Tm.mk 2 0 ⟨#[100]⟩ () [Tm.V ((j : Int) + 3 + 1), Tm.V ((j : Int) + 3 + 1)] = Tm.mk 2 0 ⟨#[100]⟩ () [Tm.V ((j + 3 + 1 : Nat) : Int), Tm.V ((j + 3 + 1 : Nat) : Int)]
    rw [show ((j + 3 + 1 : Nat) : Int) = (j : Int) + 3 + 1 by omega]
  have hE := bk_x j hj
  rw [show ((j + 3 : Nat) : Int) = (j : Int) + 3 by omega, ← hb] at hE
  refine (h.set T hx (slim_two _ _ _ _ _) ((j : Int) + 3) (by unfold I64; omega) hE).mono ?_
  rintro e w' ⟨h1, h2⟩
  refine ⟨h1, ?_⟩
  rw [hb] at h2
  show BK 70 bb ((((j + 3 : Nat) : Int), Tm.bkD (j + 3)) :: Tm.trL j) bx ts wA w'
  rw [show ((j + 3 : Nat) : Int) = (j : Int) + 3 by omega]
  exact h2
theorem bk_z {n : Nat} (hn : n = 12) : wholeE 70 (Tm.trL n) (leaf 0 3 ByteArray.empty).bare = 12 := by subst hn; exact bk_t
theorem bk_z2 {n : Nat} (hn : n = 12) : wholeE 70 (Tm.trL n) (leaf 0 12 ByteArray.empty).bare = 0 := by subst hn; exact bk_u
theorem bk_n0 : Tm.trL 0 = Tm.tr1 := rfl
theorem bk_comp {wr W : World} {j b : Nat} (hj : j < 12) (hb : b = W.heap.size) (T : Turned (fun _ => False) wr W) :
    Calls Try.prog 37 #[.string ⟨#[100]⟩, .slice (some ⟨b, 0, none⟩) 2 2] (W.alloc (.cells #[.int .i64 0, .int .i64 ((j : Int) + 3 + 1), .string ByteArray.empty, .slice none 0 0, .int .i64 0, .int .i64 ((j : Int) + 3 + 1), .string ByteArray.empty, .slice none 0 0] 27)) fun e w' => ∃ a' c', e = .returned (.agg #[.int .i64 2, .int .i64 0, .string ⟨#[100]⟩, .slice a' 2 c']) ∧ LT.In (fun k => wr.heap.size ≤ k) w' (Tm.mk 2 0 ⟨#[100]⟩ (a', c') [leaf 0 ((j : Int) + 3 + 1) ByteArray.empty, leaf 0 ((j : Int) + 3 + 1) ByteArray.empty]) ∧ Turned (fun _ => False) wr w' := by
  subst hb
  refine (compN (N := wr.heap.size) (l := [leaf 0 ((j : Int) + 3 + 1) ByteArray.empty, leaf 0 ((j : Int) + 3 + 1) ByteArray.empty]) ⟨#[100]⟩ (by unfold maxLen; decide) 2 (by decide) rfl ⟨leafIn' (i64_lit _ (by omega)) (by unfold I64; omega) (by unfold maxLen; decide), leafIn' (i64_lit _ (by omega)) (by unfold I64; omega) (by unfold maxLen; decide), trivial⟩ T.size _ rfl).mono ?_
  rintro e w' ⟨a, c, h1, h2, h3⟩
  exact ⟨a, c, h1, h2, T.trans h3⟩
theorem alloc_next (W : World) (o : Obj) : W.heap.size + 1 = (W.alloc o).heap.size := by
  show _ = (W.heap.push o).size
  rw [Array.size_push]
theorem brings_build1 {o : Oper} {a : Act} {w : World} {F : Value → World → Prop} (x : Tmp) (ho : o.op = Op.buildSlice 22 1 #[(0, .tmp x)]) {a0 a1 a2 a3 : Value} (hx : a.tmps.getD x undef = .agg #[a0, a1, a2, a3])
    (h : F (.slice (some ⟨w.heap.size, 0, none⟩) 1 1) (w.alloc (.cells #[a0, a1, a2, a3] 27))) : Brings Try.prog F ((execOp a.eval o).run Try.prog w) := by
  have hx' : a.tmps[x]?.getD undef = .agg #[a0, a1, a2, a3] := by rw [← Array.getD_eq_getD_getElem?]; exact hx
  simp only [execOp, ho, Act.eval]
  go_simp
  exact h
theorem bk_var (n : Int) (hn : I64 n) (w : World) : Calls Try.prog 62 #[.int .i64 n] w fun e w' => e = .returned (.agg #[.int .i64 0, .int .i64 n, .string ByteArray.empty, .slice none 0 0]) ∧ Turned (fun _ => False) w w' := (varV n hn w).mono (fun _ _ h => ⟨h.1, h.2.2⟩)
theorem bk_same {p : Nat → Prop} {w : World} {u q : LT} (hu : u.In p w) (hq : q.In p w) (h1 : u.bare = .mk 2 0 ⟨#[102]⟩ () [Tm.V 2]) (h2 : q.bare = .mk 2 0 ⟨#[102]⟩ () [Tm.V 2]) :
    Calls Try.prog 52 #[.agg #[.int .i64 u.kind, .int .i64 u.n, .string u.name, .slice u.at_.1 u.args.length u.at_.2], .agg #[.int .i64 q.kind, .int .i64 q.n, .string q.name, .slice q.at_.1 q.args.length q.at_.2]] w fun e w' => e = .returned (.bool true) ∧ Turned (fun _ => False) w w' :=
  have hs : slim (Tm.mk 2 0 ⟨#[102]⟩ (none, 0) [leaf 0 2 ByteArray.empty] : LT) := good_slimB (by kernel_rfl)
  sameVal' (r := true) hu hq (slim_eq' (show (Tm.mk 2 0 ⟨#[102]⟩ (none, 0) [leaf 0 2 ByteArray.empty] : LT).bare = u.bare from h1.symm) hs) (slim_eq' (show (Tm.mk 2 0 ⟨#[102]⟩ (none, 0) [leaf 0 2 ByteArray.empty] : LT).bare = q.bare from h2.symm) hs) (sameB_eq (h1.trans h2.symm) (by rw [h1]; kernel_rfl))
theorem bk_len {bb : Nat} {tr : Tm.Trail} {bx : List (Nat × Obj)} {ts : List LT} {wA w : World} (h : BK 70 bb tr bx ts wA w) : Calls Try.prog 107 #[.pointer (some ⟨bb, 0, none⟩)] w fun e w' => e = .returned (.int .i64 70) ∧ Turned (fun _ => False) w w' := h.len
attribute [irreducible] Tm.trL
set_option maxRecDepth 100000 in
set_option maxHeartbeats 12800000 in
theorem bindKnown (w : World) : Calls Try.prog 22 #[] w fun e w' => e = .returned (.bool true) ∧ Turned (fun _ => False) w w' := by
  go_enter Try.func22, Try.ntmps22
  go_wp2_with (first
    | (go_at_call 90; have := G34; refine (H33.out.walk (x := (leaf 0 1 ByteArray.empty)) ((Turned.refl (fun _ => False) _).trans T34) (leafIn' (i64_lit _ (by omega)) (i64_lit _ (by omega)) (by unfold maxLen; decide)) (Tm.good_ones' (by kernel_rfl)) bk_s).mono ?_; rintro e w35 ⟨s, rfl, hub, hbk, _⟩; have HUs := Lib.hid hub; have hb35 := hbk.box (.cells #[.int .i64 s.kind, .int .i64 s.n, .string s.name, .slice s.at_.1 s.args.length s.at_.2] 27); have H35 : Hid (BK 70 bb Tm.tr1 [(w35.heap.size, .cells #[.int .i64 s.kind, .int .i64 s.n, .string s.name, .slice s.at_.1 s.args.length s.at_.2] 27), (w21.heap.size, .cells #[.int .i64 u.kind, .int .i64 u.n, .string u.name, .slice u.at_.1 u.args.length u.at_.2] 27)] [s, u] w1 (w35.alloc (.cells #[.int .i64 s.kind, .int .i64 s.n, .string s.name, .slice s.at_.1 s.args.length s.at_.2] 27))) := hb35; clear hub hbk hb35; have G35 : True := trivial)
    | (go_at_call 62; have := G33; refine (varV 1 (i64_lit _ (by omega)) _).mono ?_; rintro e w34 ⟨rfl, _, T34⟩; have G34 : True := trivial)
    | (go_at_call 101; have := G32; refine (BK.undo (H21.out.turned0 ((((((((((((Turned.refl (fun _ => False) _).trans T22).trans T23).trans T24).trans T25).trans T26).trans T27).trans T28).trans T29).trans T30).trans T31).trans T32)) 1 (by decide)).mono ?_; rintro e w33 ⟨rfl, h33⟩; have H33 : Hid (BK 70 bb Tm.tr1 [(w21.heap.size, .cells #[.int .i64 u.kind, .int .i64 u.n, .string u.name, .slice u.at_.1 u.args.length u.at_.2] 27)] [u] w1 w33) := h33; clear h33; have G33 : True := trivial)
    | (go_at_call 101; have := G31; refine (BK.undoNo (H21.out.turned0 (((((((((((Turned.refl (fun _ => False) _).trans T22).trans T23).trans T24).trans T25).trans T26).trans T27).trans T28).trans T29).trans T30).trans T31)) 3 (by decide)).mono ?_; rintro e w32 ⟨rfl, T32⟩; have G32 : True := trivial)
    | (go_at_call 106; have := G30; refine (H21.out.has (x := (Tm.mk 2 0 ⟨#[112]⟩ (a30, c30) [(leaf 0 0 ByteArray.empty), (leaf 1 1 ByteArray.empty)])) ((((((((((Turned.refl (fun _ => False) _).trans T22).trans T23).trans T24).trans T25).trans T26).trans T27).trans T28).trans T29).trans T30) (i30) (good_slimB (by kernel_rfl)) (n := 3) (most := 2) (by decide) (by decide) bk_o).mono ?_; rintro e w31 ⟨rfl, T31⟩; have G31 : True := trivial)
    | (go_at_call 37; have := G29; refine (compN (N := (w21.alloc (.cells #[.int .i64 u.kind, .int .i64 u.n, .string u.name, .slice u.at_.1 u.args.length u.at_.2] 27)).heap.size) (l := [(leaf 0 0 ByteArray.empty), (leaf 1 1 ByteArray.empty)]) ⟨#[112]⟩ (by unfold maxLen; decide) 2 (by decide) rfl ⟨leafIn' (i64_lit _ (by omega)) (i64_lit _ (by omega)) (by unfold maxLen; decide), leafIn' (i64_lit _ (by omega)) (i64_lit _ (by omega)) (by unfold maxLen; decide), trivial⟩ (((((((((Turned.refl (fun _ => False) _).trans T22).trans T23).trans T24).trans T25).trans T26).trans T27).trans T28).trans T29).size _ rfl).mono ?_; rintro e w30 ⟨a30, c30, rfl, i30, T30⟩; have G30 : True := trivial)
    | (go_at_call 61; have := G28; refine (intV 1 (i64_lit _ (by omega)) _).mono ?_; rintro e w29 ⟨rfl, _, T29⟩; have G29 : True := trivial)
    | (go_at_call 62; have := G27; refine (varV 0 (i64_lit _ (by omega)) _).mono ?_; rintro e w28 ⟨rfl, _, T28⟩; have G28 : True := trivial)
    | (go_at_call 106; have := G26; refine (H21.out.has (x := (Tm.mk 2 0 ⟨#[112]⟩ (a26, c26) [(leaf 0 0 ByteArray.empty), (leaf 1 1 ByteArray.empty)])) ((((((Turned.refl (fun _ => False) _).trans T22).trans T23).trans T24).trans T25).trans T26) (i26) (good_slimB (by kernel_rfl)) (n := 3) (most := 100) (by decide) (by decide) bk_m).mono ?_; rintro e w27 ⟨rfl, T27⟩; have G27 : True := trivial)
    | (go_at_call 37; have := G25; refine (compN (N := (w21.alloc (.cells #[.int .i64 u.kind, .int .i64 u.n, .string u.name, .slice u.at_.1 u.args.length u.at_.2] 27)).heap.size) (l := [(leaf 0 0 ByteArray.empty), (leaf 1 1 ByteArray.empty)]) ⟨#[112]⟩ (by unfold maxLen; decide) 2 (by decide) rfl ⟨leafIn' (i64_lit _ (by omega)) (i64_lit _ (by omega)) (by unfold maxLen; decide), leafIn' (i64_lit _ (by omega)) (i64_lit _ (by omega)) (by unfold maxLen; decide), trivial⟩ (((((Turned.refl (fun _ => False) _).trans T22).trans T23).trans T24).trans T25).size _ rfl).mono ?_; rintro e w26 ⟨a26, c26, rfl, i26, T26⟩; have G26 : True := trivial)
    | (go_at_call 61; have := G24; refine (intV 1 (i64_lit _ (by omega)) _).mono ?_; rintro e w25 ⟨rfl, _, T25⟩; have G25 : True := trivial)
    | (go_at_call 62; have := G23; refine (varV 0 (i64_lit _ (by omega)) _).mono ?_; rintro e w24 ⟨rfl, _, T24⟩; have G24 : True := trivial)
    | (go_at_call 106; have := G22; refine (H21.out.has (x := (leaf 0 0 ByteArray.empty)) ((Turned.refl (fun _ => False) _).trans T22) (leafIn' (i64_lit _ (by omega)) (i64_lit _ (by omega)) (by unfold maxLen; decide)) (leaf_slim _ _ _) (n := 2) (most := 100) (by decide) (by decide) bk_k).mono ?_; rintro e w23 ⟨rfl, T23⟩; have G23 : True := trivial)
    | (go_at_call 62; have := G21; refine (varV 0 (i64_lit _ (by omega)) _).mono ?_; rintro e w22 ⟨rfl, _, T22⟩; have G22 : True := trivial)
    | (go_at_call 89; have := G20; refine (H19.out.whole (x := (leaf 0 0 ByteArray.empty)) ((Turned.refl (fun _ => False) _).trans T20) (leafIn' (i64_lit _ (by omega)) (i64_lit _ (by omega)) (by unfold maxLen; decide)) (leaf_slim _ _ _) bk_j).mono ?_; rintro e w21 ⟨u, rfl, hub, hbk, _⟩; have HUu := Lib.hid hub; have hb21 := hbk.box (.cells #[.int .i64 u.kind, .int .i64 u.n, .string u.name, .slice u.at_.1 u.args.length u.at_.2] 27); have H21 : Hid (BK 70 bb Tm.tr2 [(w21.heap.size, .cells #[.int .i64 u.kind, .int .i64 u.n, .string u.name, .slice u.at_.1 u.args.length u.at_.2] 27)] [u] w1 (w21.alloc (.cells #[.int .i64 u.kind, .int .i64 u.n, .string u.name, .slice u.at_.1 u.args.length u.at_.2] 27))) := hb21; clear hub hbk hb21; have G21 : True := trivial)
    | (go_at_call 62; have := G19; refine (varV 0 (i64_lit _ (by omega)) _).mono ?_; rintro e w20 ⟨rfl, _, T20⟩; have G20 : True := trivial)
    | (go_at_call 88; have := G18; refine (H17.out.set (x := (leaf 0 2 ByteArray.empty)) ((Turned.refl (fun _ => False) _).trans T18) (leafIn' (i64_lit _ (by omega)) (i64_lit _ (by omega)) (by unfold maxLen; decide)) (leaf_slim _ _ _) 1 (i64_lit _ (by omega)) bk_i).mono ?_; rintro e w19 ⟨rfl, h19⟩; have H19 : Hid (BK 70 bb Tm.tr2 [] [] w1 w19) := h19; clear h19; have G19 : True := trivial)
    | (go_at_call 62; have := G17; refine (varV 2 (i64_lit _ (by omega)) _).mono ?_; rintro e w18 ⟨rfl, _, T18⟩; have G18 : True := trivial)
    | (go_at_call 88; have := G16; refine (H14.out.setNo (x := (Tm.mk 2 0 ⟨#[103]⟩ (a16, c16) [(leaf 0 0 ByteArray.empty)])) (((Turned.refl (fun _ => False) _).trans T15).trans T16) i16 (good_slimB (by kernel_rfl)) 1 (i64_lit _ (by omega)) bk_h (by decide)).mono ?_; rintro e w17 ⟨rfl, h17⟩; have H17 : Hid (BK 70 bb Tm.tr1 [] [] w1 w17) := h17; clear h17; have G17 : True := trivial)
    | (go_at_call 37; have := G15; refine (compN (N := w14.heap.size) (l := [(leaf 0 0 ByteArray.empty)]) ⟨#[103]⟩ (by unfold maxLen; decide) 1 (by decide) rfl ⟨leafIn' (i64_lit _ (by omega)) (i64_lit _ (by omega)) (by unfold maxLen; decide), trivial⟩ ((Turned.refl (fun _ => False) _).trans T15).size _ rfl).mono ?_; rintro e w16 ⟨a16, c16, rfl, i16, T16⟩; have G16 : True := trivial)
    | (go_at_call 62; have := G14; refine (varV 0 (i64_lit _ (by omega)) _).mono ?_; rintro e w15 ⟨rfl, _, T15⟩; have G15 : True := trivial)
    | (go_at_call 88; have := G13; refine (H12.out.setNo (x := (leaf 1 1 ByteArray.empty)) ((Turned.refl (fun _ => False) _).trans T13) (leafIn' (i64_lit _ (by omega)) (i64_lit _ (by omega)) (by unfold maxLen; decide)) (leaf_slim _ _ _) 0 (i64_lit _ (by omega)) bk_g (by decide)).mono ?_; rintro e w14 ⟨rfl, h14⟩; have H14 : Hid (BK 70 bb Tm.tr1 [] [] w1 w14) := h14; clear h14; have G14 : True := trivial)
    | (go_at_call 61; have := G12; refine (intV 1 (i64_lit _ (by omega)) _).mono ?_; rintro e w13 ⟨rfl, _, T13⟩; have G13 : True := trivial)
    | (go_at_call 88; have := G11; refine (H9.out.set (x := (Tm.mk 2 0 ⟨#[102]⟩ (a11, c11) [(leaf 0 1 ByteArray.empty)])) (((Turned.refl (fun _ => False) _).trans T10).trans T11) i11 (good_slimB (by kernel_rfl)) 0 (i64_lit _ (by omega)) bk_f).mono ?_; rintro e w12 ⟨rfl, h12⟩; have H12 : Hid (BK 70 bb Tm.tr1 [] [] w1 w12) := h12; clear h12; have G12 : True := trivial)
    | (go_at_call 37; have := G10; refine (compN (N := w9.heap.size) (l := [(leaf 0 1 ByteArray.empty)]) ⟨#[102]⟩ (by unfold maxLen; decide) 1 (by decide) rfl ⟨leafIn' (i64_lit _ (by omega)) (i64_lit _ (by omega)) (by unfold maxLen; decide), trivial⟩ ((Turned.refl (fun _ => False) _).trans T10).size _ rfl).mono ?_; rintro e w11 ⟨a11, c11, rfl, i11, T11⟩; have G11 : True := trivial)
    | (go_at_call 62; have := G9; refine (varV 1 (i64_lit _ (by omega)) _).mono ?_; rintro e w10 ⟨rfl, _, T10⟩; have G10 : True := trivial)
    | (go_at_call 88; have := G8; refine (H7.out.setNo (x := (leaf 0 0 ByteArray.empty)) ((Turned.refl (fun _ => False) _).trans T8) (leafIn' (i64_lit _ (by omega)) (i64_lit _ (by omega)) (by unfold maxLen; decide)) (leaf_slim _ _ _) 0 (i64_lit _ (by omega)) bk_e (by decide)).mono ?_; rintro e w9 ⟨rfl, h9⟩; have H9 : Hid (BK 70 bb [] [] [] w1 w9) := h9; clear h9; have G9 : True := trivial)
    | (go_at_call 62; have := G7; refine (varV 0 (i64_lit _ (by omega)) _).mono ?_; rintro e w8 ⟨rfl, _, T8⟩; have G8 : True := trivial)
    | (go_at_call 88; have := G6; refine (H6.out.setNo (x := (leaf 9 0 ByteArray.empty)) (Turned.refl (fun _ => False) _) (leafIn' (i64_lit _ (by omega)) (i64_lit _ (by omega)) (by unfold maxLen; decide)) (leaf_slim _ _ _) 0 (i64_lit _ (by omega)) bk_d (by decide)).mono ?_; rintro e w7 ⟨rfl, h7⟩; have H7 : Hid (BK 70 bb [] [] [] w1 w7) := h7; clear h7; have G7 : True := trivial)
    | (go_at_call 88; have := G5; refine (H4.out.setNo (x := (leaf 0 70 ByteArray.empty)) ((Turned.refl (fun _ => False) _).trans T5) (leafIn' (i64_lit _ (by omega)) (i64_lit _ (by omega)) (by unfold maxLen; decide)) (leaf_slim _ _ _) 0 (i64_lit _ (by omega)) bk_c (by decide)).mono ?_; rintro e w6 ⟨rfl, h6⟩; have H6 : Hid (BK 70 bb [] [] [] w1 w6) := h6; clear h6; have G6 : True := trivial)
    | (go_at_call 62; have := G4; refine (varV 70 (i64_lit _ (by omega)) _).mono ?_; rintro e w5 ⟨rfl, _, T5⟩; have G5 : True := trivial)
    | (go_at_call 88; have := G3; refine (H2.out.setNo (x := (leaf 1 1 ByteArray.empty)) ((Turned.refl (fun _ => False) _).trans T3) (leafIn' (i64_lit _ (by omega)) (i64_lit _ (by omega)) (by unfold maxLen; decide)) (leaf_slim _ _ _) 70 (i64_lit _ (by omega)) bk_a (by decide)).mono ?_; rintro e w4 ⟨rfl, h4⟩; have H4 : Hid (BK 70 bb [] [] [] w1 w4) := h4; clear h4; have G4 : True := trivial)
    | (go_at_call 61; have := G2; refine (intV 1 (i64_lit _ (by omega)) _).mono ?_; rintro e w3 ⟨rfl, _, T3⟩; have G3 : True := trivial)
    | (go_at_call 97; have := G1; refine (both70 _).mono ?_; rintro e w2 ⟨bb, wb, rfl, h2, _⟩; have H2 : Hid (BK 70 bb [] [] [] w1 w2) := h2; clear h2; have G2 : True := trivial)
    | (go_at_call 84; refine (awake84 _).mono ?_; rintro e w1 ⟨rfl, T1⟩; have G1 : True := trivial))
  have HB := H35
  rw [← bk_n0] at HB
  clear G1
  go_loopg [22] 12 (fun k i wr => ∃ j : Nat, Hid (j + k = 12) ∧ j ≤ 12 ∧ i = .int .i64 ((j : Int) + 3) ∧ Hid (BK 70 bb (Tm.trL j) [(w35.heap.size, .cells #[.int .i64 s.kind, .int .i64 s.n, .string s.name, .slice s.at_.1 s.args.length s.at_.2] 27), (w21.heap.size, .cells #[.int .i64 u.kind, .int .i64 u.n, .string u.name, .slice u.at_.1 u.args.length u.at_.2] 27)] [s, u] w1 wr))
  case atStart => exact ⟨0, Nat.zero_add _, Nat.zero_le _, rfl, HB⟩
  case round =>
    obtain ⟨j, HG, hj, rfl, HI⟩ := hrel
    by_cases hjn : j < 12
    · have dj : decide ((j : Int) + 3 < 15) = true := decide_eq_true (by omega)
      have HJ := Lib.hid hjn
      go_wp2_with (first
        | (go_at_call 88; have := I37; refine (bk_y HI.out T37 HJ.out I37).mono ?_; rintro e W4 ⟨rfl, h4⟩; have H4 := Lib.hid h4; clear h4)
        | (go_at_call 37; have := TV; refine (bk_comp HJ.out (alloc_next _ _) (TV.alloc _)).mono ?_; rintro e W3 ⟨a37, c37, rfl, I37, T37⟩)
        | (go_at_call 62; refine (varV ((j : Int) + 3 + 1) (by unfold I64; omega) _).mono ?_; rintro e W2 ⟨rfl, _, TV⟩))
      go_roundg (gk - 1)
      case measure => have := HG.out; omega
      case rel => exact ⟨j + 1, show _ = _ by have := HG.out; omega, by omega, by go_num, H4⟩
    · have HJ : Hid (j = 12) := Lib.hid (by omega)
      have hd : decide ((j : Int) + 3 < 15) = false := decide_eq_false (by omega)
      have HE : Hid (BK 70 bb (Tm.trL j) [(w35.heap.size, .cells #[.int .i64 s.kind, .int .i64 s.n, .string s.name, .slice s.at_.1 s.args.length s.at_.2] 27), (w21.heap.size, .cells #[.int .i64 u.kind, .int .i64 u.n, .string u.name, .slice u.at_.1 u.args.length u.at_.2] 27)] [s, u] w1 wr) := HI.out
      clear HI
      go_wp2_with (first
        | (go_at_call 89; have := G103; refine (H102.out.whole (x := (leaf 0 12 ByteArray.empty)) ((Turned.refl (fun _ => False) _).trans T103) (leafIn' (i64_lit _ (by omega)) (i64_lit _ (by omega)) (by unfold maxLen; decide)) (leaf_slim _ _ _) (bk_z2 HJ.out)).mono ?_; rintro e w104 ⟨z, rfl, hub, hbk, _⟩; have HUz := Lib.hid hub; have hb104 := hbk.box (.cells #[.int .i64 z.kind, .int .i64 z.n, .string z.name, .slice z.at_.1 z.args.length z.at_.2] 27); have H104 : Hid (BK 70 bb (Tm.trL j) [(w104.heap.size, .cells #[.int .i64 z.kind, .int .i64 z.n, .string z.name, .slice z.at_.1 z.args.length z.at_.2] 27), (w102.heap.size, .cells #[.int .i64 y.kind, .int .i64 y.n, .string y.name, .slice y.at_.1 y.args.length y.at_.2] 27), (w35.heap.size, .cells #[.int .i64 s.kind, .int .i64 s.n, .string s.name, .slice s.at_.1 s.args.length s.at_.2] 27), (w21.heap.size, .cells #[.int .i64 u.kind, .int .i64 u.n, .string u.name, .slice u.at_.1 u.args.length u.at_.2] 27)] [z, y, s, u] w1 (w104.alloc (.cells #[.int .i64 z.kind, .int .i64 z.n, .string z.name, .slice z.at_.1 z.args.length z.at_.2] 27))) := hb104; clear hub hbk hb104; have G104 : True := trivial)
        | (go_at_call 62; have := G102; refine (varV 12 (i64_lit _ (by omega)) _).mono ?_; rintro e w103 ⟨rfl, _, T103⟩; have G103 : True := trivial)
        | (go_at_call 89; have := G101; refine (HE.out.whole (x := (leaf 0 3 ByteArray.empty)) ((Turned.refl (fun _ => False) _).trans T101) (leafIn' (i64_lit _ (by omega)) (i64_lit _ (by omega)) (by unfold maxLen; decide)) (leaf_slim _ _ _) (bk_z HJ.out)).mono ?_; rintro e w102 ⟨y, rfl, hub, hbk, _⟩; have HUy := Lib.hid hub; have hb102 := hbk.box (.cells #[.int .i64 y.kind, .int .i64 y.n, .string y.name, .slice y.at_.1 y.args.length y.at_.2] 27); have H102 : Hid (BK 70 bb (Tm.trL j) [(w102.heap.size, .cells #[.int .i64 y.kind, .int .i64 y.n, .string y.name, .slice y.at_.1 y.args.length y.at_.2] 27), (w35.heap.size, .cells #[.int .i64 s.kind, .int .i64 s.n, .string s.name, .slice s.at_.1 s.args.length s.at_.2] 27), (w21.heap.size, .cells #[.int .i64 u.kind, .int .i64 u.n, .string u.name, .slice u.at_.1 u.args.length u.at_.2] 27)] [y, s, u] w1 (w102.alloc (.cells #[.int .i64 y.kind, .int .i64 y.n, .string y.name, .slice y.at_.1 y.args.length y.at_.2] 27))) := hb102; clear hub hbk hb102; have G102 : True := trivial)
        | (go_at_call 62; refine (varV 3 (i64_lit _ (by omega)) _).mono ?_; rintro e w101 ⟨rfl, _, T101⟩; have G101 : True := trivial))
      have HCu := Lib.hid (fun W (T : Turned (fun _ => False) (w104.alloc (.cells #[.int .i64 z.kind, .int .i64 z.n, .string z.name, .slice z.at_.1 z.args.length z.at_.2] 27)) W) => (H104.out.turned0 T).boxes _ (.tail _ (.tail _ (.tail _ (.head _)))))
      have HIu := Lib.hid (fun W (T : Turned (fun _ => False) (w104.alloc (.cells #[.int .i64 z.kind, .int .i64 z.n, .string z.name, .slice z.at_.1 z.args.length z.at_.2] 27)) W) => (H104.out.turned0 T).terms u (.tail _ (.tail _ (.tail _ (.head _)))))
      have HCs := Lib.hid (fun W (T : Turned (fun _ => False) (w104.alloc (.cells #[.int .i64 z.kind, .int .i64 z.n, .string z.name, .slice z.at_.1 z.args.length z.at_.2] 27)) W) => (H104.out.turned0 T).boxes _ (.tail _ (.tail _ (.head _))))
      have HIs := Lib.hid (fun W (T : Turned (fun _ => False) (w104.alloc (.cells #[.int .i64 z.kind, .int .i64 z.n, .string z.name, .slice z.at_.1 z.args.length z.at_.2] 27)) W) => (H104.out.turned0 T).terms s (.tail _ (.tail _ (.head _))))
      have HBu := Lib.hid (HUu.out.trans bk_w)
      refine wp_region_ssa' (G := (fun dd vv W => (match dd with | 126 => vv = .int .i64 1 | 127 => vv = .bool true | 128 => vv = .bool true | 129 => vv = .int .i64 1 | 130 => vv = .bool true | 131 => vv = .bool true | 132 => vv = .bool true | 133 => vv = .int .i64 1 | 134 => vv = .bool true | 135 => vv = .bool true | 136 => vv = .bool true | 137 => vv = .int .i64 5 | 138 => vv = .bool true | 139 => vv = .bool true | 140 => vv = .bool true | 141 => vv = .int .i64 0 | 142 => vv = .bool true | 143 => vv = .bool true | 144 => vv = .bool true | 145 => vv = .int .i64 8 | 146 => vv = .bool true | 147 => vv = .bool true | 148 => vv = .bool true | 149 => vv = .int .i64 5 | 150 => vv = .bool true | 151 => vv = .bool true | 152 => vv = .bool true | 153 => vv = .int .i64 0 | 154 => vv = .bool true | 155 => vv = .bool true | 156 => vv = .bool true | 157 => vv = .int .i64 0 | 158 => vv = .bool true | 159 => vv = .bool true | 160 => vv = .bool true | 161 => vv = .agg #[.int .i64 u.kind, .int .i64 u.n, .string u.name, .slice u.at_.1 u.args.length u.at_.2] | 162 => vv = .agg #[.int .i64 0, .int .i64 2, .string ByteArray.empty, .slice none 0 0] | 165 => vv = .bool true | 166 => vv = .bool true | 167 => vv = .bool true | 168 => vv = .bool true | 169 => vv = .bool true | 170 => vv = .bool true | 171 => vv = .int .i64 2 | 172 => vv = .bool true | 173 => vv = .bool true | 174 => vv = .bool true | 175 => vv = .bool false | 176 => vv = .bool true | 177 => vv = .bool true | 178 => vv = .bool true | 179 => vv = .int .i64 4 | 180 => vv = .bool true | 181 => vv = .bool true | 182 => vv = .bool true | 183 => vv = .bool true | 184 => vv = .bool true | 185 => vv = .bool true | 186 => vv = .int .i64 3 | 187 => vv = .bool true | 188 => vv = .bool true | 189 => vv = .bool true | 190 => vv = .bool false | 191 => vv = .bool true | 192 => vv = .bool true | 193 => vv = .bool true | 194 => vv = .bool true | 195 => vv = .bool true | 196 => vv = .bool true | 197 => vv = .agg #[.int .i64 s.kind, .int .i64 s.n, .string s.name, .slice s.at_.1 s.args.length s.at_.2] | 198 => vv = .agg #[.int .i64 0, .int .i64 1, .string ByteArray.empty, .slice none 0 0] | 199 => vv = .bool true | 200 => vv = .bool true | 201 => vv = .bool true | 202 => vv = .pointer (some ⟨bb, 0, none⟩) | 203 => vv = .int .i64 70 | 204 => vv = .bool true | 205 => vv = .bool true | 206 => vv = .bool true | 207 => vv = .int .i64 12 | 208 => vv = .bool true | 209 => vv = .bool true | 210 => vv = .bool true | 211 => vv = .int .i64 0 | 212 => vv = .bool true | 213 => vv = .bool true | 0 => vv = .bool true | 163 => ∃ q : Option Addr × Nat, vv = .slice q.1 1 q.2 ∧ LT.Sl (fun _ => True) W q.1 q.2 [leaf 0 2 ByteArray.empty] ∧ True | 164 => ∃ q : LT, vv = .agg #[.int .i64 q.kind, .int .i64 q.n, .string q.name, .slice q.at_.1 q.args.length q.at_.2] ∧ q.In (fun _ => True) W ∧ q.bare = Tm.mk 2 0 ⟨#[102]⟩ () [Tm.V 2] | _ => True : Prop))) [126, 127, 128, 129, 130, 131, 132, 133, 134, 135, 136, 137, 138, 139, 140, 141, 142, 143, 144, 145, 146, 147, 148, 149, 150, 151, 152, 153, 154, 155, 156, 157, 158, 159, 160, 161, 162, 163, 164, 165, 166, 167, 168, 169, 170, 171, 172, 173, 174, 175, 176, 177, 178, 179, 180, 181, 182, 183, 184, 185, 186, 187, 188, 189, 190, 191, 192, 193, 194, 195, 196, 197, 198, 199, 200, 201, 202, 203, 204, 205, 206, 207, 208, 209, 210, 211, 212, 213, 0] (by kernel_rfl) rfl (by kernel_rfl) ?hG ?hs ?hQ
      case hG =>
        intro d vv W W2 T h
        split at h <;> first
          | exact h
          | (obtain ⟨x, x1, x2, x3⟩ := h; exact ⟨x, x1, x2.turned0 T, x3⟩)
      case hs =>
        refine ⟨?s0, ?s1, ?s2, ?s3, ?s4, ?s5, ?s6, ?s7, ?s8, ?s9, ?s10, ?s11, ?s12, ?s13, ?s14, ?s15, ?s16, ?s17, ?s18, ?s19, ?s20, ?s21, ?s22, ?s23, ?s24, ?s25, ?s26, ?s27, ?s28, ?s29, ?s30, ?s31, ?s32, ?s33, ?s34, ?s35, ?s36, ?s37, ?s38, ?s39, ?s40, ?s41, ?s42, ?s43, ?s44, ?s45, ?s46, ?s47, ?s48, ?s49, ?s50, ?s51, ?s52, ?s53, ?s54, ?s55, ?s56, ?s57, ?s58, ?s59, ?s60, ?s61, ?s62, ?s63, ?s64, ?s65, ?s66, ?s67, ?s68, ?s69, ?s70, ?s71, ?s72, ?s73, ?s74, ?s75, ?s76, ?s77, ?s78, ?s79, ?s80, ?s81, ?s82, ?s83, ?s84, ?s85, ?s86, ?s87, ?s88, trivial⟩
        case s0 =>
          refine stepOk_free [] [3] (by kernel_rfl) rfl ?_
          intro ac W hT hI hO
          have h3 : ac.tmps.getD 3 undef = .int .i64 1 := hO 3 (by simp)
          show Brings Try.prog (fun vv w' => Turned (fun _ => False) W w' ∧ vv = .int .i64 1) _
          simp only [execOp, Act.eval, h3]
          go_simp
          try exact ⟨Turned.refl _ _, rfl⟩
        case s1 =>
          refine stepOk_free [126] [] (by kernel_rfl) rfl ?_
          intro ac W hT hI hO
          have h126 : ac.tmps.getD 126 undef = .int .i64 1 := hI 126 (by simp)
          show Brings Try.prog (fun vv w' => Turned (fun _ => False) W w' ∧ vv = .bool true) _
          simp only [execOp, Act.eval, h126]
          go_simp
          try exact ⟨Turned.refl _ _, rfl⟩
        case s2 =>
          refine stepOk_free [127] [] (by kernel_rfl) rfl ?_
          intro ac W hT hI hO
          have h127 : ac.tmps.getD 127 undef = .bool true := hI 127 (by simp)
          show Brings Try.prog (fun vv w' => Turned (fun _ => False) W w' ∧ vv = .bool true) _
          simp only [execOp, Act.eval, h127]
          go_simp
          try exact ⟨Turned.refl _ _, rfl⟩
        case s3 =>
          refine stepOk_guard [128] [4] (by kernel_rfl) 2 true 128 rfl rfl (by simp) true true (fun _ _ h => h) (fun hc => ?_) (fun hc => by cases hc)
          intro ac W hT hI hO
          have h4 : ac.tmps.getD 4 undef = .int .i64 1 := hO 4 (by simp)
          show Brings Try.prog (fun vv w' => Turned (fun _ => False) W w' ∧ vv = .int .i64 1) _
          simp only [execOp, Act.eval, h4]
          go_simp
          try exact ⟨Turned.refl _ _, rfl⟩
        case s4 =>
          refine stepOk_guard [129, 128] [] (by kernel_rfl) 2 true 128 rfl rfl (by simp) true true (fun _ _ h => h) (fun hc => ?_) (fun hc => by cases hc)
          intro ac W hT hI hO
          have h129 : ac.tmps.getD 129 undef = .int .i64 1 := hI 129 (by simp)
          show Brings Try.prog (fun vv w' => Turned (fun _ => False) W w' ∧ vv = .bool true) _
          simp only [execOp, Act.eval, h129]
          go_simp
          try exact ⟨Turned.refl _ _, rfl⟩
        case s5 =>
          refine stepOk_free [128, 130] [] (by kernel_rfl) rfl ?_
          intro ac W hT hI hO
          have h128 : ac.tmps.getD 128 undef = .bool true := hI 128 (by simp)
          have h130 : ac.tmps.getD 130 undef = .bool true := hI 130 (by simp)
          show Brings Try.prog (fun vv w' => Turned (fun _ => False) W w' ∧ vv = .bool true) _
          simp only [execOp, Act.eval, h128, h130]
          go_simp
          try exact ⟨Turned.refl _ _, rfl⟩
        case s6 =>
          refine stepOk_free [131] [] (by kernel_rfl) rfl ?_
          intro ac W hT hI hO
          have h131 : ac.tmps.getD 131 undef = .bool true := hI 131 (by simp)
          show Brings Try.prog (fun vv w' => Turned (fun _ => False) W w' ∧ vv = .bool true) _
          simp only [execOp, Act.eval, h131]
          go_simp
          try exact ⟨Turned.refl _ _, rfl⟩
        case s7 =>
          refine stepOk_guard [132] [5] (by kernel_rfl) 6 true 132 rfl rfl (by simp) true true (fun _ _ h => h) (fun hc => ?_) (fun hc => by cases hc)
          intro ac W hT hI hO
          have h5 : ac.tmps.getD 5 undef = .int .i64 1 := hO 5 (by simp)
          show Brings Try.prog (fun vv w' => Turned (fun _ => False) W w' ∧ vv = .int .i64 1) _
          simp only [execOp, Act.eval, h5]
          go_simp
          try exact ⟨Turned.refl _ _, rfl⟩
        case s8 =>
          refine stepOk_guard [133, 132] [] (by kernel_rfl) 6 true 132 rfl rfl (by simp) true true (fun _ _ h => h) (fun hc => ?_) (fun hc => by cases hc)
          intro ac W hT hI hO
          have h133 : ac.tmps.getD 133 undef = .int .i64 1 := hI 133 (by simp)
          show Brings Try.prog (fun vv w' => Turned (fun _ => False) W w' ∧ vv = .bool true) _
          simp only [execOp, Act.eval, h133]
          go_simp
          try exact ⟨Turned.refl _ _, rfl⟩
        case s9 =>
          refine stepOk_free [132, 134] [] (by kernel_rfl) rfl ?_
          intro ac W hT hI hO
          have h132 : ac.tmps.getD 132 undef = .bool true := hI 132 (by simp)
          have h134 : ac.tmps.getD 134 undef = .bool true := hI 134 (by simp)
          show Brings Try.prog (fun vv w' => Turned (fun _ => False) W w' ∧ vv = .bool true) _
          simp only [execOp, Act.eval, h132, h134]
          go_simp
          try exact ⟨Turned.refl _ _, rfl⟩
        case s10 =>
          refine stepOk_free [135] [] (by kernel_rfl) rfl ?_
          intro ac W hT hI hO
          have h135 : ac.tmps.getD 135 undef = .bool true := hI 135 (by simp)
          show Brings Try.prog (fun vv w' => Turned (fun _ => False) W w' ∧ vv = .bool true) _
          simp only [execOp, Act.eval, h135]
          go_simp
          try exact ⟨Turned.refl _ _, rfl⟩
        case s11 =>
          refine stepOk_guard [136] [6] (by kernel_rfl) 10 true 136 rfl rfl (by simp) true true (fun _ _ h => h) (fun hc => ?_) (fun hc => by cases hc)
          intro ac W hT hI hO
          have h6 : ac.tmps.getD 6 undef = .int .i64 5 := hO 6 (by simp)
          show Brings Try.prog (fun vv w' => Turned (fun _ => False) W w' ∧ vv = .int .i64 5) _
          simp only [execOp, Act.eval, h6]
          go_simp
          try exact ⟨Turned.refl _ _, rfl⟩
        case s12 =>
          refine stepOk_guard [137, 136] [] (by kernel_rfl) 10 true 136 rfl rfl (by simp) true true (fun _ _ h => h) (fun hc => ?_) (fun hc => by cases hc)
          intro ac W hT hI hO
          have h137 : ac.tmps.getD 137 undef = .int .i64 5 := hI 137 (by simp)
          show Brings Try.prog (fun vv w' => Turned (fun _ => False) W w' ∧ vv = .bool true) _
          simp only [execOp, Act.eval, h137]
          go_simp
          try exact ⟨Turned.refl _ _, rfl⟩
        case s13 =>
          refine stepOk_free [136, 138] [] (by kernel_rfl) rfl ?_
          intro ac W hT hI hO
          have h136 : ac.tmps.getD 136 undef = .bool true := hI 136 (by simp)
          have h138 : ac.tmps.getD 138 undef = .bool true := hI 138 (by simp)
          show Brings Try.prog (fun vv w' => Turned (fun _ => False) W w' ∧ vv = .bool true) _
          simp only [execOp, Act.eval, h136, h138]
          go_simp
          try exact ⟨Turned.refl _ _, rfl⟩
        case s14 =>
          refine stepOk_free [139] [] (by kernel_rfl) rfl ?_
          intro ac W hT hI hO
          have h139 : ac.tmps.getD 139 undef = .bool true := hI 139 (by simp)
          show Brings Try.prog (fun vv w' => Turned (fun _ => False) W w' ∧ vv = .bool true) _
          simp only [execOp, Act.eval, h139]
          go_simp
          try exact ⟨Turned.refl _ _, rfl⟩
        case s15 =>
          refine stepOk_guard [140] [7] (by kernel_rfl) 14 true 140 rfl rfl (by simp) true true (fun _ _ h => h) (fun hc => ?_) (fun hc => by cases hc)
          intro ac W hT hI hO
          have h7 : ac.tmps.getD 7 undef = .int .i64 0 := hO 7 (by simp)
          show Brings Try.prog (fun vv w' => Turned (fun _ => False) W w' ∧ vv = .int .i64 0) _
          simp only [execOp, Act.eval, h7]
          go_simp
          try exact ⟨Turned.refl _ _, rfl⟩
        case s16 =>
          refine stepOk_guard [141, 140] [] (by kernel_rfl) 14 true 140 rfl rfl (by simp) true true (fun _ _ h => h) (fun hc => ?_) (fun hc => by cases hc)
          intro ac W hT hI hO
          have h141 : ac.tmps.getD 141 undef = .int .i64 0 := hI 141 (by simp)
          show Brings Try.prog (fun vv w' => Turned (fun _ => False) W w' ∧ vv = .bool true) _
          simp only [execOp, Act.eval, h141]
          go_simp
          try exact ⟨Turned.refl _ _, rfl⟩
        case s17 =>
          refine stepOk_free [140, 142] [] (by kernel_rfl) rfl ?_
          intro ac W hT hI hO
          have h140 : ac.tmps.getD 140 undef = .bool true := hI 140 (by simp)
          have h142 : ac.tmps.getD 142 undef = .bool true := hI 142 (by simp)
          show Brings Try.prog (fun vv w' => Turned (fun _ => False) W w' ∧ vv = .bool true) _
          simp only [execOp, Act.eval, h140, h142]
          go_simp
          try exact ⟨Turned.refl _ _, rfl⟩
        case s18 =>
          refine stepOk_free [143] [] (by kernel_rfl) rfl ?_
          intro ac W hT hI hO
          have h143 : ac.tmps.getD 143 undef = .bool true := hI 143 (by simp)
          show Brings Try.prog (fun vv w' => Turned (fun _ => False) W w' ∧ vv = .bool true) _
          simp only [execOp, Act.eval, h143]
          go_simp
          try exact ⟨Turned.refl _ _, rfl⟩
        case s19 =>
          refine stepOk_guard [144] [8] (by kernel_rfl) 18 true 144 rfl rfl (by simp) true true (fun _ _ h => h) (fun hc => ?_) (fun hc => by cases hc)
          intro ac W hT hI hO
          have h8 : ac.tmps.getD 8 undef = .int .i64 8 := hO 8 (by simp)
          show Brings Try.prog (fun vv w' => Turned (fun _ => False) W w' ∧ vv = .int .i64 8) _
          simp only [execOp, Act.eval, h8]
          go_simp
          try exact ⟨Turned.refl _ _, rfl⟩
        case s20 =>
          refine stepOk_guard [145, 144] [] (by kernel_rfl) 18 true 144 rfl rfl (by simp) true true (fun _ _ h => h) (fun hc => ?_) (fun hc => by cases hc)
          intro ac W hT hI hO
          have h145 : ac.tmps.getD 145 undef = .int .i64 8 := hI 145 (by simp)
          show Brings Try.prog (fun vv w' => Turned (fun _ => False) W w' ∧ vv = .bool true) _
          simp only [execOp, Act.eval, h145]
          go_simp
          try exact ⟨Turned.refl _ _, rfl⟩
        case s21 =>
          refine stepOk_free [144, 146] [] (by kernel_rfl) rfl ?_
          intro ac W hT hI hO
          have h144 : ac.tmps.getD 144 undef = .bool true := hI 144 (by simp)
          have h146 : ac.tmps.getD 146 undef = .bool true := hI 146 (by simp)
          show Brings Try.prog (fun vv w' => Turned (fun _ => False) W w' ∧ vv = .bool true) _
          simp only [execOp, Act.eval, h144, h146]
          go_simp
          try exact ⟨Turned.refl _ _, rfl⟩
        case s22 =>
          refine stepOk_free [147] [] (by kernel_rfl) rfl ?_
          intro ac W hT hI hO
          have h147 : ac.tmps.getD 147 undef = .bool true := hI 147 (by simp)
          show Brings Try.prog (fun vv w' => Turned (fun _ => False) W w' ∧ vv = .bool true) _
          simp only [execOp, Act.eval, h147]
          go_simp
          try exact ⟨Turned.refl _ _, rfl⟩
        case s23 =>
          refine stepOk_guard [148] [9] (by kernel_rfl) 22 true 148 rfl rfl (by simp) true true (fun _ _ h => h) (fun hc => ?_) (fun hc => by cases hc)
          intro ac W hT hI hO
          have h9 : ac.tmps.getD 9 undef = .int .i64 5 := hO 9 (by simp)
          show Brings Try.prog (fun vv w' => Turned (fun _ => False) W w' ∧ vv = .int .i64 5) _
          simp only [execOp, Act.eval, h9]
          go_simp
          try exact ⟨Turned.refl _ _, rfl⟩
        case s24 =>
          refine stepOk_guard [149, 148] [] (by kernel_rfl) 22 true 148 rfl rfl (by simp) true true (fun _ _ h => h) (fun hc => ?_) (fun hc => by cases hc)
          intro ac W hT hI hO
          have h149 : ac.tmps.getD 149 undef = .int .i64 5 := hI 149 (by simp)
          show Brings Try.prog (fun vv w' => Turned (fun _ => False) W w' ∧ vv = .bool true) _
          simp only [execOp, Act.eval, h149]
          go_simp
          try exact ⟨Turned.refl _ _, rfl⟩
        case s25 =>
          refine stepOk_free [148, 150] [] (by kernel_rfl) rfl ?_
          intro ac W hT hI hO
          have h148 : ac.tmps.getD 148 undef = .bool true := hI 148 (by simp)
          have h150 : ac.tmps.getD 150 undef = .bool true := hI 150 (by simp)
          show Brings Try.prog (fun vv w' => Turned (fun _ => False) W w' ∧ vv = .bool true) _
          simp only [execOp, Act.eval, h148, h150]
          go_simp
          try exact ⟨Turned.refl _ _, rfl⟩
        case s26 =>
          refine stepOk_free [151] [] (by kernel_rfl) rfl ?_
          intro ac W hT hI hO
          have h151 : ac.tmps.getD 151 undef = .bool true := hI 151 (by simp)
          show Brings Try.prog (fun vv w' => Turned (fun _ => False) W w' ∧ vv = .bool true) _
          simp only [execOp, Act.eval, h151]
          go_simp
          try exact ⟨Turned.refl _ _, rfl⟩
        case s27 =>
          refine stepOk_guard [152] [10] (by kernel_rfl) 26 true 152 rfl rfl (by simp) true true (fun _ _ h => h) (fun hc => ?_) (fun hc => by cases hc)
          intro ac W hT hI hO
          have h10 : ac.tmps.getD 10 undef = .int .i64 0 := hO 10 (by simp)
          show Brings Try.prog (fun vv w' => Turned (fun _ => False) W w' ∧ vv = .int .i64 0) _
          simp only [execOp, Act.eval, h10]
          go_simp
          try exact ⟨Turned.refl _ _, rfl⟩
        case s28 =>
          refine stepOk_guard [153, 152] [] (by kernel_rfl) 26 true 152 rfl rfl (by simp) true true (fun _ _ h => h) (fun hc => ?_) (fun hc => by cases hc)
          intro ac W hT hI hO
          have h153 : ac.tmps.getD 153 undef = .int .i64 0 := hI 153 (by simp)
          show Brings Try.prog (fun vv w' => Turned (fun _ => False) W w' ∧ vv = .bool true) _
          simp only [execOp, Act.eval, h153]
          go_simp
          try exact ⟨Turned.refl _ _, rfl⟩
        case s29 =>
          refine stepOk_free [152, 154] [] (by kernel_rfl) rfl ?_
          intro ac W hT hI hO
          have h152 : ac.tmps.getD 152 undef = .bool true := hI 152 (by simp)
          have h154 : ac.tmps.getD 154 undef = .bool true := hI 154 (by simp)
          show Brings Try.prog (fun vv w' => Turned (fun _ => False) W w' ∧ vv = .bool true) _
          simp only [execOp, Act.eval, h152, h154]
          go_simp
          try exact ⟨Turned.refl _ _, rfl⟩
        case s30 =>
          refine stepOk_free [155] [] (by kernel_rfl) rfl ?_
          intro ac W hT hI hO
          have h155 : ac.tmps.getD 155 undef = .bool true := hI 155 (by simp)
          show Brings Try.prog (fun vv w' => Turned (fun _ => False) W w' ∧ vv = .bool true) _
          simp only [execOp, Act.eval, h155]
          go_simp
          try exact ⟨Turned.refl _ _, rfl⟩
        case s31 =>
          refine stepOk_guard [156] [12] (by kernel_rfl) 30 true 156 rfl rfl (by simp) true true (fun _ _ h => h) (fun hc => ?_) (fun hc => by cases hc)
          intro ac W hT hI hO
          have h12 : ac.tmps.getD 12 undef = .int .i64 0 := hO 12 (by simp)
          show Brings Try.prog (fun vv w' => Turned (fun _ => False) W w' ∧ vv = .int .i64 0) _
          simp only [execOp, Act.eval, h12]
          go_simp
          try exact ⟨Turned.refl _ _, rfl⟩
        case s32 =>
          refine stepOk_guard [157, 156] [] (by kernel_rfl) 30 true 156 rfl rfl (by simp) true true (fun _ _ h => h) (fun hc => ?_) (fun hc => by cases hc)
          intro ac W hT hI hO
          have h157 : ac.tmps.getD 157 undef = .int .i64 0 := hI 157 (by simp)
          show Brings Try.prog (fun vv w' => Turned (fun _ => False) W w' ∧ vv = .bool true) _
          simp only [execOp, Act.eval, h157]
          go_simp
          try exact ⟨Turned.refl _ _, rfl⟩
        case s33 =>
          refine stepOk_free [156, 158] [] (by kernel_rfl) rfl ?_
          intro ac W hT hI hO
          have h156 : ac.tmps.getD 156 undef = .bool true := hI 156 (by simp)
          have h158 : ac.tmps.getD 158 undef = .bool true := hI 158 (by simp)
          show Brings Try.prog (fun vv w' => Turned (fun _ => False) W w' ∧ vv = .bool true) _
          simp only [execOp, Act.eval, h156, h158]
          go_simp
          try exact ⟨Turned.refl _ _, rfl⟩
        case s34 =>
          refine stepOk_free [159] [] (by kernel_rfl) rfl ?_
          intro ac W hT hI hO
          have h159 : ac.tmps.getD 159 undef = .bool true := hI 159 (by simp)
          show Brings Try.prog (fun vv w' => Turned (fun _ => False) W w' ∧ vv = .bool true) _
          simp only [execOp, Act.eval, h159]
          go_simp
          try exact ⟨Turned.refl _ _, rfl⟩
        case s35 =>
          refine stepOk_guard [160] [11] (by kernel_rfl) 34 true 160 rfl rfl (by simp) true true (fun _ _ h => h) (fun hc => ?_) (fun hc => by cases hc)
          intro ac W hT hI hO
          have h11 : ac.tmps.getD 11 undef = .pointer (some ⟨w21.heap.size, 0, none⟩) := hO 11 (by simp)
          show Brings Try.prog (fun vv w' => Turned (fun _ => False) W w' ∧ vv = .agg #[.int .i64 u.kind, .int .i64 u.n, .string u.name, .slice u.at_.1 u.args.length u.at_.2]) _
          obtain ⟨c0, c1, c2, c3, _⟩ := cells4 (HCu.out W hT)
          simp only [execOp, Act.eval, h11]
          go_simp
          try exact ⟨Turned.refl _ _, rfl⟩
        case s36 =>
          refine stepOk_guard [160] [] (by kernel_rfl) 34 true 160 rfl rfl (by simp) true true (fun _ _ h => h) (fun hc => ?_) (fun hc => by cases hc)
          intro ac W hT hI hO
          show Brings Try.prog (fun vv w' => Turned (fun _ => False) W w' ∧ vv = .agg #[.int .i64 0, .int .i64 2, .string ByteArray.empty, .slice none 0 0]) _
          simp only [execOp, Act.eval]
          go_simp
          show Calls Try.prog 62 _ W _
          (with_reducible refine (bk_var 2 (i64_lit _ (by omega)) W).mono ?_)
          rintro e w' ⟨rfl, T'⟩
          exact ⟨_, rfl, T', rfl⟩
        case s37 =>
          refine stepOk_guard [162, 160] [] (by kernel_rfl) 34 true 160 rfl rfl (by simp) true true (fun _ _ h => h) (fun hc => ?_) (fun hc => by cases hc)
          intro ac W hT hI hO
          have h162 : ac.tmps.getD 162 undef = .agg #[.int .i64 0, .int .i64 2, .string ByteArray.empty, .slice none 0 0] := hI 162 (by simp)
          show Brings Try.prog (fun vv w' => Turned (fun _ => False) W w' ∧ ∃ q : Option Addr × Nat, vv = .slice q.1 1 q.2 ∧ LT.Sl (fun _ => True) w' q.1 q.2 [leaf 0 2 ByteArray.empty] ∧ True) _
          refine brings_build1 162 rfl h162 ?_
          exact ⟨(Turned.refl _ W).alloc _, (some ⟨W.heap.size, 0, none⟩, 1), rfl, sl_made (l := [leaf 0 2 ByteArray.empty]) ⟨leafIn' (i64_lit _ (by omega)) (i64_lit _ (by omega)) (by unfold maxLen; decide), trivial⟩ 1 (by decide) rfl _ rfl, trivial⟩
        case s38 =>
          refine stepOk_guard [163, 160] [] (by kernel_rfl) 34 true 160 rfl rfl (by simp) true true (fun _ _ h => h) (fun hc => ?_) (fun hc => by cases hc)
          intro ac W hT hI hO
          have h163 := hI 163 (by simp)
          obtain ⟨⟨sa, sc⟩, h163, x2, _⟩ : ∃ q : Option Addr × Nat, ac.tmps.getD 163 undef = .slice q.1 1 q.2 ∧ LT.Sl (fun _ => True) W q.1 q.2 [leaf 0 2 ByteArray.empty] ∧ True := h163
          show Brings Try.prog (fun vv w' => Turned (fun _ => False) W w' ∧ ∃ q : LT, vv = .agg #[.int .i64 q.kind, .int .i64 q.n, .string q.name, .slice q.at_.1 q.args.length q.at_.2] ∧ q.In (fun _ => True) w' ∧ q.bare = Tm.mk 2 0 ⟨#[102]⟩ () [Tm.V 2]) _
          simp only [execOp, Act.eval, h163]
          go_simp
          show Calls Try.prog 37 _ W _
          refine (compV ⟨#[102]⟩ (by unfold maxLen; decide) 1 (by decide) rfl x2).mono ?_
          rintro e w' ⟨a', c', rfl, h1, h2⟩
          exact ⟨_, rfl, h2, .mk 2 0 ⟨#[102]⟩ (a', c') [leaf 0 2 ByteArray.empty], rfl, h1, rfl⟩
        case s39 =>
          refine stepOk_guard [161, 164, 160] [] (by kernel_rfl) 34 true 160 rfl rfl (by simp) true true (fun _ _ h => h) (fun hc => ?_) (fun hc => by cases hc)
          intro ac W hT hI hO
          have h161 : ac.tmps.getD 161 undef = .agg #[.int .i64 u.kind, .int .i64 u.n, .string u.name, .slice u.at_.1 u.args.length u.at_.2] := hI 161 (by simp)
          have h164 := hI 164 (by simp)
          obtain ⟨qx, h164, y2, y3⟩ : ∃ q : LT, ac.tmps.getD 164 undef = .agg #[.int .i64 q.kind, .int .i64 q.n, .string q.name, .slice q.at_.1 q.args.length q.at_.2] ∧ q.In (fun _ => True) W ∧ q.bare = Tm.mk 2 0 ⟨#[102]⟩ () [Tm.V 2] := h164
          show Brings Try.prog (fun vv w' => Turned (fun _ => False) W w' ∧ vv = .bool true) _
          simp only [execOp, Act.eval, h161, h164]
          go_simp
          show Calls Try.prog 52 _ W _
          (with_reducible refine (bk_same (HIu.out W hT) y2 HBu.out y3).mono ?_)
          rintro e w' ⟨rfl, T'⟩
          exact ⟨_, rfl, T', rfl⟩
        case s40 =>
          refine stepOk_free [160, 165] [] (by kernel_rfl) rfl ?_
          intro ac W hT hI hO
          have h160 : ac.tmps.getD 160 undef = .bool true := hI 160 (by simp)
          have h165 : ac.tmps.getD 165 undef = .bool true := hI 165 (by simp)
          show Brings Try.prog (fun vv w' => Turned (fun _ => False) W w' ∧ vv = .bool true) _
          simp only [execOp, Act.eval, h160, h165]
          go_simp
          try exact ⟨Turned.refl _ _, rfl⟩
        case s41 =>
          refine stepOk_free [166] [] (by kernel_rfl) rfl ?_
          intro ac W hT hI hO
          have h166 : ac.tmps.getD 166 undef = .bool true := hI 166 (by simp)
          show Brings Try.prog (fun vv w' => Turned (fun _ => False) W w' ∧ vv = .bool true) _
          simp only [execOp, Act.eval, h166]
          go_simp
          try exact ⟨Turned.refl _ _, rfl⟩
        case s42 =>
          refine stepOk_guard [167] [13] (by kernel_rfl) 41 true 167 rfl rfl (by simp) true true (fun _ _ h => h) (fun hc => ?_) (fun hc => by cases hc)
          intro ac W hT hI hO
          have h13 : ac.tmps.getD 13 undef = .bool true := hO 13 (by simp)
          show Brings Try.prog (fun vv w' => Turned (fun _ => False) W w' ∧ vv = .bool true) _
          simp only [execOp, Act.eval, h13]
          go_simp
          try exact ⟨Turned.refl _ _, rfl⟩
        case s43 =>
          refine stepOk_free [167, 168] [] (by kernel_rfl) rfl ?_
          intro ac W hT hI hO
          have h167 : ac.tmps.getD 167 undef = .bool true := hI 167 (by simp)
          have h168 : ac.tmps.getD 168 undef = .bool true := hI 168 (by simp)
          show Brings Try.prog (fun vv w' => Turned (fun _ => False) W w' ∧ vv = .bool true) _
          simp only [execOp, Act.eval, h167, h168]
          go_simp
          try exact ⟨Turned.refl _ _, rfl⟩
        case s44 =>
          refine stepOk_free [169] [] (by kernel_rfl) rfl ?_
          intro ac W hT hI hO
          have h169 : ac.tmps.getD 169 undef = .bool true := hI 169 (by simp)
          show Brings Try.prog (fun vv w' => Turned (fun _ => False) W w' ∧ vv = .bool true) _
          simp only [execOp, Act.eval, h169]
          go_simp
          try exact ⟨Turned.refl _ _, rfl⟩
        case s45 =>
          refine stepOk_guard [170] [14] (by kernel_rfl) 44 true 170 rfl rfl (by simp) true true (fun _ _ h => h) (fun hc => ?_) (fun hc => by cases hc)
          intro ac W hT hI hO
          have h14 : ac.tmps.getD 14 undef = .int .i64 2 := hO 14 (by simp)
          show Brings Try.prog (fun vv w' => Turned (fun _ => False) W w' ∧ vv = .int .i64 2) _
          simp only [execOp, Act.eval, h14]
          go_simp
          try exact ⟨Turned.refl _ _, rfl⟩
        case s46 =>
          refine stepOk_guard [171, 170] [] (by kernel_rfl) 44 true 170 rfl rfl (by simp) true true (fun _ _ h => h) (fun hc => ?_) (fun hc => by cases hc)
          intro ac W hT hI hO
          have h171 : ac.tmps.getD 171 undef = .int .i64 2 := hI 171 (by simp)
          show Brings Try.prog (fun vv w' => Turned (fun _ => False) W w' ∧ vv = .bool true) _
          simp only [execOp, Act.eval, h171]
          go_simp
          try exact ⟨Turned.refl _ _, rfl⟩
        case s47 =>
          refine stepOk_free [170, 172] [] (by kernel_rfl) rfl ?_
          intro ac W hT hI hO
          have h170 : ac.tmps.getD 170 undef = .bool true := hI 170 (by simp)
          have h172 : ac.tmps.getD 172 undef = .bool true := hI 172 (by simp)
          show Brings Try.prog (fun vv w' => Turned (fun _ => False) W w' ∧ vv = .bool true) _
          simp only [execOp, Act.eval, h170, h172]
          go_simp
          try exact ⟨Turned.refl _ _, rfl⟩
        case s48 =>
          refine stepOk_free [173] [] (by kernel_rfl) rfl ?_
          intro ac W hT hI hO
          have h173 : ac.tmps.getD 173 undef = .bool true := hI 173 (by simp)
          show Brings Try.prog (fun vv w' => Turned (fun _ => False) W w' ∧ vv = .bool true) _
          simp only [execOp, Act.eval, h173]
          go_simp
          try exact ⟨Turned.refl _ _, rfl⟩
        case s49 =>
          refine stepOk_guard [174] [15] (by kernel_rfl) 48 true 174 rfl rfl (by simp) true true (fun _ _ h => h) (fun hc => ?_) (fun hc => by cases hc)
          intro ac W hT hI hO
          have h15 : ac.tmps.getD 15 undef = .bool false := hO 15 (by simp)
          show Brings Try.prog (fun vv w' => Turned (fun _ => False) W w' ∧ vv = .bool false) _
          simp only [execOp, Act.eval, h15]
          go_simp
          try exact ⟨Turned.refl _ _, rfl⟩
        case s50 =>
          refine stepOk_guard [175, 174] [] (by kernel_rfl) 48 true 174 rfl rfl (by simp) true true (fun _ _ h => h) (fun hc => ?_) (fun hc => by cases hc)
          intro ac W hT hI hO
          have h175 : ac.tmps.getD 175 undef = .bool false := hI 175 (by simp)
          show Brings Try.prog (fun vv w' => Turned (fun _ => False) W w' ∧ vv = .bool true) _
          simp only [execOp, Act.eval, h175]
          go_simp
          try exact ⟨Turned.refl _ _, rfl⟩
        case s51 =>
          refine stepOk_free [174, 176] [] (by kernel_rfl) rfl ?_
          intro ac W hT hI hO
          have h174 : ac.tmps.getD 174 undef = .bool true := hI 174 (by simp)
          have h176 : ac.tmps.getD 176 undef = .bool true := hI 176 (by simp)
          show Brings Try.prog (fun vv w' => Turned (fun _ => False) W w' ∧ vv = .bool true) _
          simp only [execOp, Act.eval, h174, h176]
          go_simp
          try exact ⟨Turned.refl _ _, rfl⟩
        case s52 =>
          refine stepOk_free [177] [] (by kernel_rfl) rfl ?_
          intro ac W hT hI hO
          have h177 : ac.tmps.getD 177 undef = .bool true := hI 177 (by simp)
          show Brings Try.prog (fun vv w' => Turned (fun _ => False) W w' ∧ vv = .bool true) _
          simp only [execOp, Act.eval, h177]
          go_simp
          try exact ⟨Turned.refl _ _, rfl⟩
        case s53 =>
          refine stepOk_guard [178] [16] (by kernel_rfl) 52 true 178 rfl rfl (by simp) true true (fun _ _ h => h) (fun hc => ?_) (fun hc => by cases hc)
          intro ac W hT hI hO
          have h16 : ac.tmps.getD 16 undef = .int .i64 4 := hO 16 (by simp)
          show Brings Try.prog (fun vv w' => Turned (fun _ => False) W w' ∧ vv = .int .i64 4) _
          simp only [execOp, Act.eval, h16]
          go_simp
          try exact ⟨Turned.refl _ _, rfl⟩
        case s54 =>
          refine stepOk_guard [179, 178] [] (by kernel_rfl) 52 true 178 rfl rfl (by simp) true true (fun _ _ h => h) (fun hc => ?_) (fun hc => by cases hc)
          intro ac W hT hI hO
          have h179 : ac.tmps.getD 179 undef = .int .i64 4 := hI 179 (by simp)
          show Brings Try.prog (fun vv w' => Turned (fun _ => False) W w' ∧ vv = .bool true) _
          simp only [execOp, Act.eval, h179]
          go_simp
          try exact ⟨Turned.refl _ _, rfl⟩
        case s55 =>
          refine stepOk_free [178, 180] [] (by kernel_rfl) rfl ?_
          intro ac W hT hI hO
          have h178 : ac.tmps.getD 178 undef = .bool true := hI 178 (by simp)
          have h180 : ac.tmps.getD 180 undef = .bool true := hI 180 (by simp)
          show Brings Try.prog (fun vv w' => Turned (fun _ => False) W w' ∧ vv = .bool true) _
          simp only [execOp, Act.eval, h178, h180]
          go_simp
          try exact ⟨Turned.refl _ _, rfl⟩
        case s56 =>
          refine stepOk_free [181] [] (by kernel_rfl) rfl ?_
          intro ac W hT hI hO
          have h181 : ac.tmps.getD 181 undef = .bool true := hI 181 (by simp)
          show Brings Try.prog (fun vv w' => Turned (fun _ => False) W w' ∧ vv = .bool true) _
          simp only [execOp, Act.eval, h181]
          go_simp
          try exact ⟨Turned.refl _ _, rfl⟩
        case s57 =>
          refine stepOk_guard [182] [17] (by kernel_rfl) 56 true 182 rfl rfl (by simp) true true (fun _ _ h => h) (fun hc => ?_) (fun hc => by cases hc)
          intro ac W hT hI hO
          have h17 : ac.tmps.getD 17 undef = .bool true := hO 17 (by simp)
          show Brings Try.prog (fun vv w' => Turned (fun _ => False) W w' ∧ vv = .bool true) _
          simp only [execOp, Act.eval, h17]
          go_simp
          try exact ⟨Turned.refl _ _, rfl⟩
        case s58 =>
          refine stepOk_free [182, 183] [] (by kernel_rfl) rfl ?_
          intro ac W hT hI hO
          have h182 : ac.tmps.getD 182 undef = .bool true := hI 182 (by simp)
          have h183 : ac.tmps.getD 183 undef = .bool true := hI 183 (by simp)
          show Brings Try.prog (fun vv w' => Turned (fun _ => False) W w' ∧ vv = .bool true) _
          simp only [execOp, Act.eval, h182, h183]
          go_simp
          try exact ⟨Turned.refl _ _, rfl⟩
        case s59 =>
          refine stepOk_free [184] [] (by kernel_rfl) rfl ?_
          intro ac W hT hI hO
          have h184 : ac.tmps.getD 184 undef = .bool true := hI 184 (by simp)
          show Brings Try.prog (fun vv w' => Turned (fun _ => False) W w' ∧ vv = .bool true) _
          simp only [execOp, Act.eval, h184]
          go_simp
          try exact ⟨Turned.refl _ _, rfl⟩
        case s60 =>
          refine stepOk_guard [185] [18] (by kernel_rfl) 59 true 185 rfl rfl (by simp) true true (fun _ _ h => h) (fun hc => ?_) (fun hc => by cases hc)
          intro ac W hT hI hO
          have h18 : ac.tmps.getD 18 undef = .int .i64 3 := hO 18 (by simp)
          show Brings Try.prog (fun vv w' => Turned (fun _ => False) W w' ∧ vv = .int .i64 3) _
          simp only [execOp, Act.eval, h18]
          go_simp
          try exact ⟨Turned.refl _ _, rfl⟩
        case s61 =>
          refine stepOk_guard [186, 185] [] (by kernel_rfl) 59 true 185 rfl rfl (by simp) true true (fun _ _ h => h) (fun hc => ?_) (fun hc => by cases hc)
          intro ac W hT hI hO
          have h186 : ac.tmps.getD 186 undef = .int .i64 3 := hI 186 (by simp)
          show Brings Try.prog (fun vv w' => Turned (fun _ => False) W w' ∧ vv = .bool true) _
          simp only [execOp, Act.eval, h186]
          go_simp
          try exact ⟨Turned.refl _ _, rfl⟩
        case s62 =>
          refine stepOk_free [185, 187] [] (by kernel_rfl) rfl ?_
          intro ac W hT hI hO
          have h185 : ac.tmps.getD 185 undef = .bool true := hI 185 (by simp)
          have h187 : ac.tmps.getD 187 undef = .bool true := hI 187 (by simp)
          show Brings Try.prog (fun vv w' => Turned (fun _ => False) W w' ∧ vv = .bool true) _
          simp only [execOp, Act.eval, h185, h187]
          go_simp
          try exact ⟨Turned.refl _ _, rfl⟩
        case s63 =>
          refine stepOk_free [188] [] (by kernel_rfl) rfl ?_
          intro ac W hT hI hO
          have h188 : ac.tmps.getD 188 undef = .bool true := hI 188 (by simp)
          show Brings Try.prog (fun vv w' => Turned (fun _ => False) W w' ∧ vv = .bool true) _
          simp only [execOp, Act.eval, h188]
          go_simp
          try exact ⟨Turned.refl _ _, rfl⟩
        case s64 =>
          refine stepOk_guard [189] [19] (by kernel_rfl) 63 true 189 rfl rfl (by simp) true true (fun _ _ h => h) (fun hc => ?_) (fun hc => by cases hc)
          intro ac W hT hI hO
          have h19 : ac.tmps.getD 19 undef = .bool false := hO 19 (by simp)
          show Brings Try.prog (fun vv w' => Turned (fun _ => False) W w' ∧ vv = .bool false) _
          simp only [execOp, Act.eval, h19]
          go_simp
          try exact ⟨Turned.refl _ _, rfl⟩
        case s65 =>
          refine stepOk_guard [190, 189] [] (by kernel_rfl) 63 true 189 rfl rfl (by simp) true true (fun _ _ h => h) (fun hc => ?_) (fun hc => by cases hc)
          intro ac W hT hI hO
          have h190 : ac.tmps.getD 190 undef = .bool false := hI 190 (by simp)
          show Brings Try.prog (fun vv w' => Turned (fun _ => False) W w' ∧ vv = .bool true) _
          simp only [execOp, Act.eval, h190]
          go_simp
          try exact ⟨Turned.refl _ _, rfl⟩
        case s66 =>
          refine stepOk_free [189, 191] [] (by kernel_rfl) rfl ?_
          intro ac W hT hI hO
          have h189 : ac.tmps.getD 189 undef = .bool true := hI 189 (by simp)
          have h191 : ac.tmps.getD 191 undef = .bool true := hI 191 (by simp)
          show Brings Try.prog (fun vv w' => Turned (fun _ => False) W w' ∧ vv = .bool true) _
          simp only [execOp, Act.eval, h189, h191]
          go_simp
          try exact ⟨Turned.refl _ _, rfl⟩
        case s67 =>
          refine stepOk_free [192] [] (by kernel_rfl) rfl ?_
          intro ac W hT hI hO
          have h192 : ac.tmps.getD 192 undef = .bool true := hI 192 (by simp)
          show Brings Try.prog (fun vv w' => Turned (fun _ => False) W w' ∧ vv = .bool true) _
          simp only [execOp, Act.eval, h192]
          go_simp
          try exact ⟨Turned.refl _ _, rfl⟩
        case s68 =>
          refine stepOk_guard [193] [20] (by kernel_rfl) 67 true 193 rfl rfl (by simp) true true (fun _ _ h => h) (fun hc => ?_) (fun hc => by cases hc)
          intro ac W hT hI hO
          have h20 : ac.tmps.getD 20 undef = .bool true := hO 20 (by simp)
          show Brings Try.prog (fun vv w' => Turned (fun _ => False) W w' ∧ vv = .bool true) _
          simp only [execOp, Act.eval, h20]
          go_simp
          try exact ⟨Turned.refl _ _, rfl⟩
        case s69 =>
          refine stepOk_free [193, 194] [] (by kernel_rfl) rfl ?_
          intro ac W hT hI hO
          have h193 : ac.tmps.getD 193 undef = .bool true := hI 193 (by simp)
          have h194 : ac.tmps.getD 194 undef = .bool true := hI 194 (by simp)
          show Brings Try.prog (fun vv w' => Turned (fun _ => False) W w' ∧ vv = .bool true) _
          simp only [execOp, Act.eval, h193, h194]
          go_simp
          try exact ⟨Turned.refl _ _, rfl⟩
        case s70 =>
          refine stepOk_free [195] [] (by kernel_rfl) rfl ?_
          intro ac W hT hI hO
          have h195 : ac.tmps.getD 195 undef = .bool true := hI 195 (by simp)
          show Brings Try.prog (fun vv w' => Turned (fun _ => False) W w' ∧ vv = .bool true) _
          simp only [execOp, Act.eval, h195]
          go_simp
          try exact ⟨Turned.refl _ _, rfl⟩
        case s71 =>
          refine stepOk_guard [196] [21] (by kernel_rfl) 70 true 196 rfl rfl (by simp) true true (fun _ _ h => h) (fun hc => ?_) (fun hc => by cases hc)
          intro ac W hT hI hO
          have h21 : ac.tmps.getD 21 undef = .pointer (some ⟨w35.heap.size, 0, none⟩) := hO 21 (by simp)
          show Brings Try.prog (fun vv w' => Turned (fun _ => False) W w' ∧ vv = .agg #[.int .i64 s.kind, .int .i64 s.n, .string s.name, .slice s.at_.1 s.args.length s.at_.2]) _
          obtain ⟨c0, c1, c2, c3, _⟩ := cells4 (HCs.out W hT)
          simp only [execOp, Act.eval, h21]
          go_simp
          try exact ⟨Turned.refl _ _, rfl⟩
        case s72 =>
          refine stepOk_guard [196] [] (by kernel_rfl) 70 true 196 rfl rfl (by simp) true true (fun _ _ h => h) (fun hc => ?_) (fun hc => by cases hc)
          intro ac W hT hI hO
          show Brings Try.prog (fun vv w' => Turned (fun _ => False) W w' ∧ vv = .agg #[.int .i64 0, .int .i64 1, .string ByteArray.empty, .slice none 0 0]) _
          simp only [execOp, Act.eval]
          go_simp
          show Calls Try.prog 62 _ W _
          (with_reducible refine (bk_var 1 (i64_lit _ (by omega)) W).mono ?_)
          rintro e w' ⟨rfl, T'⟩
          exact ⟨_, rfl, T', rfl⟩
        case s73 =>
          refine stepOk_guard [197, 198, 196] [] (by kernel_rfl) 70 true 196 rfl rfl (by simp) true true (fun _ _ h => h) (fun hc => ?_) (fun hc => by cases hc)
          intro ac W hT hI hO
          have h197 : ac.tmps.getD 197 undef = .agg #[.int .i64 s.kind, .int .i64 s.n, .string s.name, .slice s.at_.1 s.args.length s.at_.2] := hI 197 (by simp)
          have h198 : ac.tmps.getD 198 undef = .agg #[.int .i64 0, .int .i64 1, .string ByteArray.empty, .slice none 0 0] := hI 198 (by simp)
          show Brings Try.prog (fun vv w' => Turned (fun _ => False) W w' ∧ vv = .bool true) _
          simp only [execOp, Act.eval, h197, h198]
          go_simp
          show Calls Try.prog 52 _ W _
          (with_reducible refine (sameVar (HIs.out W hT) HUs.out (by omega) (by omega)).mono ?_)
          rintro e w' ⟨rfl, T'⟩
          exact ⟨_, rfl, T', rfl⟩
        case s74 =>
          refine stepOk_free [196, 199] [] (by kernel_rfl) rfl ?_
          intro ac W hT hI hO
          have h196 : ac.tmps.getD 196 undef = .bool true := hI 196 (by simp)
          have h199 : ac.tmps.getD 199 undef = .bool true := hI 199 (by simp)
          show Brings Try.prog (fun vv w' => Turned (fun _ => False) W w' ∧ vv = .bool true) _
          simp only [execOp, Act.eval, h196, h199]
          go_simp
          try exact ⟨Turned.refl _ _, rfl⟩
        case s75 =>
          refine stepOk_free [200] [] (by kernel_rfl) rfl ?_
          intro ac W hT hI hO
          have h200 : ac.tmps.getD 200 undef = .bool true := hI 200 (by simp)
          show Brings Try.prog (fun vv w' => Turned (fun _ => False) W w' ∧ vv = .bool true) _
          simp only [execOp, Act.eval, h200]
          go_simp
          try exact ⟨Turned.refl _ _, rfl⟩
        case s76 =>
          refine stepOk_guard [201] [1] (by kernel_rfl) 75 true 201 rfl rfl (by simp) true true (fun _ _ h => h) (fun hc => ?_) (fun hc => by cases hc)
          intro ac W hT hI hO
          have h1 : ac.tmps.getD 1 undef = .pointer (some ⟨bb, 0, none⟩) := hO 1 (by simp)
          show Brings Try.prog (fun vv w' => Turned (fun _ => False) W w' ∧ vv = .pointer (some ⟨bb, 0, none⟩)) _
          simp only [execOp, Act.eval, h1]
          go_simp
          try exact ⟨Turned.refl _ _, rfl⟩
        case s77 =>
          refine stepOk_guard [202, 201] [] (by kernel_rfl) 75 true 201 rfl rfl (by simp) true true (fun _ _ h => h) (fun hc => ?_) (fun hc => by cases hc)
          intro ac W hT hI hO
          have h202 : ac.tmps.getD 202 undef = .pointer (some ⟨bb, 0, none⟩) := hI 202 (by simp)
          show Brings Try.prog (fun vv w' => Turned (fun _ => False) W w' ∧ vv = .int .i64 70) _
          simp only [execOp, Act.eval, h202]
          go_simp
          show Calls Try.prog 107 _ W _
          (with_reducible refine (bk_len (H104.out.turned0 hT)).mono ?_)
          rintro e w' ⟨rfl, T'⟩
          exact ⟨_, rfl, T', rfl⟩
        case s78 =>
          refine stepOk_guard [203, 201] [] (by kernel_rfl) 75 true 201 rfl rfl (by simp) true true (fun _ _ h => h) (fun hc => ?_) (fun hc => by cases hc)
          intro ac W hT hI hO
          have h203 : ac.tmps.getD 203 undef = .int .i64 70 := hI 203 (by simp)
          show Brings Try.prog (fun vv w' => Turned (fun _ => False) W w' ∧ vv = .bool true) _
          simp only [execOp, Act.eval, h203]
          go_simp
          try exact ⟨Turned.refl _ _, rfl⟩
        case s79 =>
          refine stepOk_free [201, 204] [] (by kernel_rfl) rfl ?_
          intro ac W hT hI hO
          have h201 : ac.tmps.getD 201 undef = .bool true := hI 201 (by simp)
          have h204 : ac.tmps.getD 204 undef = .bool true := hI 204 (by simp)
          show Brings Try.prog (fun vv w' => Turned (fun _ => False) W w' ∧ vv = .bool true) _
          simp only [execOp, Act.eval, h201, h204]
          go_simp
          try exact ⟨Turned.refl _ _, rfl⟩
        case s80 =>
          refine stepOk_free [205] [] (by kernel_rfl) rfl ?_
          intro ac W hT hI hO
          have h205 : ac.tmps.getD 205 undef = .bool true := hI 205 (by simp)
          show Brings Try.prog (fun vv w' => Turned (fun _ => False) W w' ∧ vv = .bool true) _
          simp only [execOp, Act.eval, h205]
          go_simp
          try exact ⟨Turned.refl _ _, rfl⟩
        case s81 =>
          refine stepOk_guard [206] [25] (by kernel_rfl) 80 true 206 rfl rfl (by simp) true true (fun _ _ h => h) (fun hc => ?_) (fun hc => by cases hc)
          intro ac W hT hI hO
          have h25 : ac.tmps.getD 25 undef = .int .i64 12 := hO 25 (by simp)
          show Brings Try.prog (fun vv w' => Turned (fun _ => False) W w' ∧ vv = .int .i64 12) _
          simp only [execOp, Act.eval, h25]
          go_simp
          try exact ⟨Turned.refl _ _, rfl⟩
        case s82 =>
          refine stepOk_guard [207, 206] [] (by kernel_rfl) 80 true 206 rfl rfl (by simp) true true (fun _ _ h => h) (fun hc => ?_) (fun hc => by cases hc)
          intro ac W hT hI hO
          have h207 : ac.tmps.getD 207 undef = .int .i64 12 := hI 207 (by simp)
          show Brings Try.prog (fun vv w' => Turned (fun _ => False) W w' ∧ vv = .bool true) _
          simp only [execOp, Act.eval, h207]
          go_simp
          try exact ⟨Turned.refl _ _, rfl⟩
        case s83 =>
          refine stepOk_free [206, 208] [] (by kernel_rfl) rfl ?_
          intro ac W hT hI hO
          have h206 : ac.tmps.getD 206 undef = .bool true := hI 206 (by simp)
          have h208 : ac.tmps.getD 208 undef = .bool true := hI 208 (by simp)
          show Brings Try.prog (fun vv w' => Turned (fun _ => False) W w' ∧ vv = .bool true) _
          simp only [execOp, Act.eval, h206, h208]
          go_simp
          try exact ⟨Turned.refl _ _, rfl⟩
        case s84 =>
          refine stepOk_free [209] [] (by kernel_rfl) rfl ?_
          intro ac W hT hI hO
          have h209 : ac.tmps.getD 209 undef = .bool true := hI 209 (by simp)
          show Brings Try.prog (fun vv w' => Turned (fun _ => False) W w' ∧ vv = .bool true) _
          simp only [execOp, Act.eval, h209]
          go_simp
          try exact ⟨Turned.refl _ _, rfl⟩
        case s85 =>
          refine stepOk_guard [210] [27] (by kernel_rfl) 84 true 210 rfl rfl (by simp) true true (fun _ _ h => h) (fun hc => ?_) (fun hc => by cases hc)
          intro ac W hT hI hO
          have h27 : ac.tmps.getD 27 undef = .int .i64 0 := hO 27 (by simp)
          show Brings Try.prog (fun vv w' => Turned (fun _ => False) W w' ∧ vv = .int .i64 0) _
          simp only [execOp, Act.eval, h27]
          go_simp
          try exact ⟨Turned.refl _ _, rfl⟩
        case s86 =>
          refine stepOk_guard [211, 210] [] (by kernel_rfl) 84 true 210 rfl rfl (by simp) true true (fun _ _ h => h) (fun hc => ?_) (fun hc => by cases hc)
          intro ac W hT hI hO
          have h211 : ac.tmps.getD 211 undef = .int .i64 0 := hI 211 (by simp)
          show Brings Try.prog (fun vv w' => Turned (fun _ => False) W w' ∧ vv = .bool true) _
          simp only [execOp, Act.eval, h211]
          go_simp
          try exact ⟨Turned.refl _ _, rfl⟩
        case s87 =>
          refine stepOk_free [210, 212] [] (by kernel_rfl) rfl ?_
          intro ac W hT hI hO
          have h210 : ac.tmps.getD 210 undef = .bool true := hI 210 (by simp)
          have h212 : ac.tmps.getD 212 undef = .bool true := hI 212 (by simp)
          show Brings Try.prog (fun vv w' => Turned (fun _ => False) W w' ∧ vv = .bool true) _
          simp only [execOp, Act.eval, h210, h212]
          go_simp
          try exact ⟨Turned.refl _ _, rfl⟩
        case s88 =>
          refine stepOk_free [213] [] (by kernel_rfl) rfl ?_
          intro ac W hT hI hO
          have h213 : ac.tmps.getD 213 undef = .bool true := hI 213 (by simp)
          show Brings Try.prog (fun vv w' => Turned (fun _ => False) W w' ∧ vv = .bool true) _
          simp only [execOp, Act.eval, h213]
          go_simp
          try exact ⟨Turned.refl _ _, rfl⟩
      case hQ =>
        intro vs w110 T110 hV
        have q0 : vs 0 = .bool true := hV 0 (by simp)
        simp only [List.foldl_cons, List.foldl_nil, List.setIfInBounds_toArray, List.set_cons_zero, List.set_cons_succ, q0]
        have HT110 := Lib.hid (H104.out.old.trans T110)
        clear hV q0 T110
        go_wp2_with fail
        go_ret
        exact ⟨rfl, T1.trans HT110.out⟩
end Go.Proofs.Ytoihjobdfjajfaa
