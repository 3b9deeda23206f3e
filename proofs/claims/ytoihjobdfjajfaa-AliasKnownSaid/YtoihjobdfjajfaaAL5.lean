/- alias.more, More: whether one term is another with terms in its variables' place. -/
import Derived.Test.YtoihjobdfjajfaaAL4
import Derived.Test.YtoihjobdfjajfaaKey
namespace Go.Proofs.Ytoihjobdfjajfaa
set_option linter.unusedVariables false
set_option linter.unusedSimpArgs false
open Go.RowKit Go.Maps

def setG (g : Int → Option LT) (n : Int) (b : LT) : Int → Option LT := fun j => if j = n then some b else g j
theorem setG_vals (g : Int → Option LT) (n : Int) (b : LT) : upd (valsM g) n b.val = valsM (setG g n b) := by
  funext j; unfold upd valsM setG
  by_cases e : j = n
  · rw [if_pos e, if_pos e]; rfl
  · rw [if_neg e, if_neg e]
theorem setG_bares (g : Int → Option LT) (n : Int) (b : LT) : baresM (setG g n b) = Tm.setM (baresM g) n b.bare := by
  funext j; unfold Tm.setM baresM setG
  by_cases e : j = n
  · rw [if_pos e, if_pos e]; rfl
  · rw [if_neg e, if_neg e]
/-- What the map holds behind a call. -/
def MoreP (p : Nat → Prop) (mb N : Nat) (mo : Option Tm.MM) (W : World) : Prop :=
  ∀ m', mo = some m' → ∃ (mn : Nat) (g : Int → Option LT), mn ≤ N ∧ IMap Try.prog 2 W mb mn (valsM g) ∧ baresM g = m' ∧ ∀ i x, g i = some x → x.In p W ∧ goodB x = true
theorem MoreP.turned0 {p : Nat → Prop} {mb N : Nat} {mo : Option Tm.MM} {W W' : World} (h : MoreP p mb N mo W) (ht : Turned (fun _ => False) W W') : MoreP p mb N mo W' := by
  intro m' hm
  obtain ⟨mn, g, h1, h2, h3, h4⟩ := h m' hm
  exact ⟨mn, g, h1, h2.turned ht (fun f => f), h3, fun i x hx => ⟨(h4 i x hx).1.turned0 ht, (h4 i x hx).2⟩⟩
def MoreS (p : Nat → Prop) (mb mj : Nat) (gj : Int → Option LT) (x y : LT) (wr : World) (RB : Bool) : List Value → World → Prop
  | [], W => Turned (fun _ => False) wr W
  | [v], W => ∃ b : Bool, v = .bool b ∧ b = RB ∧ Turned (fun k => k = mb) wr W ∧ MoreP p mb (mj + x.size) (Tm.moreM x.bare y.bare (baresM gj)) W
  | _, _ => False
theorem MoreS.turned0 {p : Nat → Prop} {mb mj : Nat} {gj : Int → Option LT} {x y : LT} {wr : World} {RB : Bool} : ∀ (hs : List Value) (w w' : World), MoreS p mb mj gj x y wr RB hs w → Turned (fun _ => False) w w' → MoreS p mb mj gj x y wr RB hs w'
  | [], _, _, h, ht => Turned.trans h ht
  | [_], _, _, h, ht => by obtain ⟨b, h0, h1, h2, h3⟩ := h; exact ⟨b, h0, h1, h2.trans (ht.mono (fun _ _ f => f.elim)), h3.turned0 ht⟩
  | _ :: _ :: _, _, _, h, _ => h.elim
theorem more_nil {p : Nat → Prop} {mb mj : Nat} {gj : Int → Option LT} {x y : LT} {wr W : World} {RB : Bool} {hs : List Value} (hl : hs.length ≤ 0) (h : MoreS p mb mj gj x y wr RB hs W) : Turned (fun _ => False) wr W := by
  obtain rfl : hs = [] := List.eq_nil_of_length_eq_zero (by omega)
  exact h
theorem more_val {p : Nat → Prop} {mb mj : Nat} {gj : Int → Option LT} {x y : LT} {wr : World} {RB : Bool} (hs : List Value) (W : World) (h : MoreS p mb mj gj x y wr RB hs W) (v : Value) (hv : hs[0]? = some v) : v = .bool RB := by
  match hs, h, hv with
  | [_], h, hv => simp at hv; subst hv; obtain ⟨b, h0, h1, _⟩ := h; rw [h0, h1]
theorem moreM_eq (a b : Tm Unit) (m : Tm.MM) : Tm.moreM a b m = (if a.kind = 0 then (match m a.n with | none => some (Tm.setM m a.n b) | some x => if Tm.same x b = true then some m else none)
    else if a.kind = b.kind ∧ a.n = b.n ∧ a.name = b.name ∧ a.args.length = b.args.length then Tm.moresM a.args b.args m else none) := by
  cases a; rw [Tm.moreM]; rfl
theorem moresM_cons (x y : Tm Unit) (l r : List (Tm Unit)) (m : Tm.MM) : Tm.moresM (x :: l) (y :: r) m = (match Tm.moreM x y m with | none => none | some m => Tm.moresM l r m) := by
  rw [Tm.moresM]
  cases Tm.moreM x y m <;> rfl
theorem moresM_nil (r : List (Tm Unit)) (m : Tm.MM) : Tm.moresM [] r m = some m := by rw [Tm.moresM]
theorem goodB_arg {t x : LT} (h : goodB t = true) (hx : x ∈ t.args) : goodB x = true := by
  refine goodB_flat h ?_
  rw [Tm.flat_eq]
  exact List.mem_cons_of_mem _ (mem_flats_arg hx (by rw [Tm.flat_eq]; exact List.mem_cons_self ..))
theorem drop_bares {t : LT} {j : Nat} {x : LT} (h : t.args[j]? = some x) : (Tm.bares t.args).drop j = x.bare :: (Tm.bares t.args).drop (j + 1) := by
  have hl : j < (Tm.bares t.args).length := by rw [Tm.bares_length]; exact (List.getElem?_eq_some_iff.1 h).1
  rw [List.drop_eq_getElem_cons hl]
  congr 1
  have : (Tm.bares t.args)[j]? = some x.bare := by rw [Tm.bares_eq, List.getElem?_map, h]; rfl
  rw [List.getElem?_eq_getElem hl] at this
  injection this
/-- At the head of the loop. -/
structure MoreI (p : Nat → Prop) (mb : Nat) (a b : LT) (mn : Nat) (g : Int → Option LT) (j : Nat) (gj : Int → Option LT) (mj : Nat) (w2 W : World) : Prop where
  turned : Turned (fun k => k = mb) w2 W
  map : IMap Try.prog 2 W mb mj (valsM gj)
  ok : ∀ i x, gj i = some x → x.In p W ∧ goodB x = true
  rest : Tm.moresM (Tm.bares a.args) (Tm.bares b.args) (baresM g) = Tm.moresM ((Tm.bares a.args).drop j) ((Tm.bares b.args).drop j) (baresM gj)
  le : mj ≤ mn + Tm.sizes (a.args.take j)
set_option maxRecDepth 100000 in
set_option maxHeartbeats 6400000 in
theorem more139 {p : Nat → Prop} {mb : Nat} (hpm : ∀ k, p k → k ≠ mb) (n : Nat) : ∀ (a b : LT) (w : World) (mn : Nat) (g : Int → Option LT), a.depth ≤ n → a.In p w → b.In p w → goodB b = true → IMap Try.prog 2 w mb mn (valsM g) → (∀ i x, g i = some x → x.In p w ∧ goodB x = true) → mn + a.size ≤ 100000 →
    Calls Try.prog 139 #[a.val, b.val, .map (some mb)] w fun e w' => e = .returned (.bool (Tm.moreM a.bare b.bare (baresM g)).isSome) ∧ Turned (fun k => k = mb) w w' ∧ MoreP p mb (mn + a.size) (Tm.moreM a.bare b.bare (baresM g)) w' := by
  induction n with
  | zero => intro a b w mn g h; have := Tm.depth_pos a; omega
  | succ n ih =>
    intro a b w mn g hd ha hb hgb hm hg hsz
    have h2 := twoBox w (.cells #[.int .i64 a.kind, .int .i64 a.n, .string a.name, .slice a.at_.1 a.args.length a.at_.2] 27) (.cells #[.int .i64 b.kind, .int .i64 b.n, .string b.name, .slice b.at_.1 b.args.length b.at_.2] 27)
    have hmlt := hm.lt
    have hm2 := hm.turned h2.1 (fun f => f)
    have HB2 : Hid (((w.alloc (.cells #[.int .i64 a.kind, .int .i64 a.n, .string a.name, .slice a.at_.1 a.args.length a.at_.2] 27)).alloc (.cells #[.int .i64 b.kind, .int .i64 b.n, .string b.name, .slice b.at_.1 b.args.length b.at_.2] 27)).heap[w.heap.size + 1]? = some (.cells #[.int .i64 b.kind, .int .i64 b.n, .string b.name, .slice b.at_.1 b.args.length b.at_.2] 27 (0, 0))) := h2.2.2.2
    by_cases hk : a.kind = 0
    · have k0 : (a.kind == 0) = true := by simp [hk]
      have hn := ha.n
      have hlk := hm2.look_ok law2 Try.underlying151 (zero27 _) (key2 hn)
      have hmo : Tm.moreM a.bare b.bare (baresM g) = (match g a.n with | none => some (Tm.setM (baresM g) a.n b.bare) | some x => if Tm.same x.bare b.bare = true then some (baresM g) else none) := by
        rw [moreM_eq, Tm.bare_kind, if_pos hk, Tm.bare_n]
        unfold baresM
        cases g a.n <;> rfl
      have hkey := key2 hn
      rw [LT.val_eq a, LT.val_eq b]
      cases hga : g a.n with
      | none =>
        have hv0 : valsM g a.n = none := by unfold valsM; rw [hga]; rfl
        rw [hv0] at hlk
        simp only [Option.getD_none, Option.isSome_none] at hlk
        unfold zeroT at hlk
        rw [hga] at hmo
        simp only at hmo
        rw [hmo]
        have HMM := Lib.hid (And.intro hm2 (And.intro hm (And.intro hv0 h2)))
        have HIN := Lib.hid (And.intro hb (And.intro hgb (And.intro hg hsz)))
        have hc1 : ∀ o j u, ((w.alloc (.cells #[.int .i64 a.kind, .int .i64 a.n, .string a.name, .slice a.at_.1 a.args.length a.at_.2] 27)).alloc (.cells #[.int .i64 b.kind, .int .i64 b.n, .string b.name, .slice b.at_.1 b.args.length b.at_.2] 27)).cell? ⟨w.heap.size + 1, j, none⟩ = some u → (((w.alloc (.cells #[.int .i64 a.kind, .int .i64 a.n, .string a.name, .slice a.at_.1 a.args.length a.at_.2] 27)).alloc (.cells #[.int .i64 b.kind, .int .i64 b.n, .string b.name, .slice b.at_.1 b.args.length b.at_.2] 27)).alloc o).cell? ⟨w.heap.size + 1, j, none⟩ = some u := fun o j u h => cell_old h
        obtain ⟨d0, d1, d2, d3, _⟩ := cells4 HB2.out
        have HC1 := Lib.hid hc1
        have e0 := hc1 (.cells #[.int .i64 0, .int .i64 0, .string ByteArray.empty, .slice none 0 0] 27) _ _ d0
        have e1 := hc1 (.cells #[.int .i64 0, .int .i64 0, .string ByteArray.empty, .slice none 0 0] 27) _ _ d1
        have e2 := hc1 (.cells #[.int .i64 0, .int .i64 0, .string ByteArray.empty, .slice none 0 0] 27) _ _ d2
        have e3 := hc1 (.cells #[.int .i64 0, .int .i64 0, .string ByteArray.empty, .slice none 0 0] 27) _ _ d3
        clear hk hga hv0 hmo hb hgb hg hm hm2 h2 ih hd ha hc1 d0 d1 d2 d3
        go_enter Try.func139, Try.ntmps139
        go_wp2_with (at_mapUpdate; refine wpList_put rfl _ _ _ 151 rfl law2 Try.underlying151 rfl (HMM.out.1.alloc (.cells #[.int .i64 0, .int .i64 0, .string ByteArray.empty, .slice none 0 0] 27)) (by unfold maxLen; omega) rfl rfl hkey trivial ?_; intro w6 hm6 T6)
        go_ret
        have TW : Turned (fun k => k = mb) w w6 := ((HMM.out.2.2.2.1.alloc _).mono (fun _ _ f => f.elim)).trans T6
        refine ⟨rfl, TW, ?_⟩
        intro m' hm'
        injection hm' with hm'
        subst hm'
        have hm7 : IMap Try.prog 2 w6 mb (mn + 1) (valsM (setG g a.n b)) := by
          have h := hm6
          rw [HMM.out.2.2.1] at h
          rw [← setG_vals, LT.val_eq b]
          exact h
        obtain ⟨hb, hgb, hg, hsz⟩ := HIN.out
        have hp := Tm.size_pos a
        refine ⟨mn + 1, setG g a.n b, by omega, hm7, setG_bares g a.n b, fun i x hx => ?_⟩
        unfold setG at hx
        split at hx
        · injection hx with hx
          subst hx
          exact ⟨LT.In.turned TW (fun k _ hk e => hpm k hk e) (fun _ _ h => h) _ hb, hgb⟩
        · exact ⟨LT.In.turned TW (fun k _ hk e => hpm k hk e) (fun _ _ h => h) _ (hg i x hx).1, (hg i x hx).2⟩
      | some x =>
        have hv0 : valsM g a.n = some x.val := by unfold valsM; rw [hga]; rfl
        rw [hv0] at hlk
        simp only [Option.getD_some, Option.isSome_some] at hlk
        rw [LT.val_eq x] at hlk
        rw [hga] at hmo
        simp only at hmo
        obtain ⟨hxi, hxg⟩ := hg a.n x hga
        have TX := h2.1.alloc (.cells #[.int .i64 x.kind, .int .i64 x.n, .string x.name, .slice x.at_.1 x.args.length x.at_.2] 27)
        have hsm := same52 (hxi.turned0 TX) (hb.turned0 TX) (good_slim hxg) (good_slim hgb)
        have hsb : sameB x b = Tm.same x.bare b.bare := by unfold sameB; rw [hxg, hgb, same_bares]; rfl
        rw [LT.val_eq x, LT.val_eq b, hsb] at hsm
        obtain ⟨SM, hSM⟩ : ∃ z, z = Tm.same x.bare b.bare := ⟨_, rfl⟩
        rw [← hSM] at hsm hmo
        have hmo2 : Tm.moreM a.bare b.bare (baresM g) = if SM = true then some (baresM g) else none := hmo
        have HSM := Lib.hid hsm
        have HMO := Lib.hid hmo2
        have HG := Lib.hid (And.intro hm hg)
        have HTX := Lib.hid TX
        obtain ⟨d0, d1, d2, d3, _⟩ := cells4 HB2.out
        have e0 := cell_old (o := .cells #[.int .i64 x.kind, .int .i64 x.n, .string x.name, .slice x.at_.1 x.args.length x.at_.2] 27) d0
        have e1 := cell_old (o := .cells #[.int .i64 x.kind, .int .i64 x.n, .string x.name, .slice x.at_.1 x.args.length x.at_.2] 27) d1
        have e2 := cell_old (o := .cells #[.int .i64 x.kind, .int .i64 x.n, .string x.name, .slice x.at_.1 x.args.length x.at_.2] 27) d2
        have e3 := cell_old (o := .cells #[.int .i64 x.kind, .int .i64 x.n, .string x.name, .slice x.at_.1 x.args.length x.at_.2] 27) d3
        clear hk hga hv0 hmo hmo2 hb hgb hg hm hm2 h2 ih hd ha d0 d1 d2 d3 hsm hsb hSM TX hxi hxg
        go_enter Try.func139, Try.ntmps139
        go_wp2_with (go_at_call 52; (with_reducible refine HSM.out.mono ?_); rintro e w5 ⟨rfl, T5⟩)
        go_ret
        rw [HMO.out]
        have TW := HTX.out.trans T5
        refine ⟨by cases SM <;> rfl, TW.mono (fun _ _ f => f.elim), ?_⟩
        intro m' hm'
        cases SM with
        | true =>
          rw [if_pos rfl] at hm'
          injection hm' with hm'
          subst hm'
          exact ⟨mn, g, by omega, HG.out.1.turned TW (fun f => f), rfl, fun i y hy => ⟨(HG.out.2 i y hy).1.turned0 TW, (HG.out.2 i y hy).2⟩⟩
        | false => rw [if_neg (by simp)] at hm'; cases hm'
    · have k0 : (a.kind == 0) = false := by simp [hk]
      have hmo : Tm.moreM a.bare b.bare (baresM g) = (if a.kind = b.kind ∧ a.n = b.n ∧ a.name = b.name ∧ a.args.length = b.args.length then Tm.moresM (Tm.bares a.args) (Tm.bares b.args) (baresM g) else none) := by
        rw [moreM_eq, Tm.bare_kind, if_neg hk, Tm.bare_n, Tm.bare_name, Tm.bare_arity, Tm.bare_kind, Tm.bare_n, Tm.bare_name, Tm.bare_arity, Tm.bare_args, Tm.bare_args]
      have HTB := Lib.hid h2.1
      by_cases hc : a.kind = b.kind ∧ a.n = b.n ∧ a.name = b.name ∧ a.args.length = b.args.length
      · rw [if_pos hc] at hmo
        obtain ⟨c1, c2, c3, c4⟩ := hc
        have z1 : (a.kind != b.kind) = false := by simp [c1]
        have z2 : (a.n != b.n) = false := by simp [c2]
        have z3 : (a.name.toList == b.name.toList) = true := by simp [c3]
        obtain ⟨MO, hMO⟩ : ∃ z, z = Tm.moreM a.bare b.bare (baresM g) := ⟨_, rfl⟩
        rw [← hMO] at hmo ⊢
        have hal : a.args.length ≤ 9223372036854775807 := by have := ha.len; unfold maxLen at this; omega
        have HMO := Lib.hid hmo
        have HIH := Lib.hid ih
        have HAB := Lib.hid (And.intro ha (And.intro hb hgb))
        have hini : Hid (MoreI p mb a b mn g 0 g mn ((w.alloc (.cells #[.int .i64 a.kind, .int .i64 a.n, .string a.name, .slice a.at_.1 a.args.length a.at_.2] 27)).alloc (.cells #[.int .i64 b.kind, .int .i64 b.n, .string b.name, .slice b.at_.1 b.args.length b.at_.2] 27)) ((w.alloc (.cells #[.int .i64 a.kind, .int .i64 a.n, .string a.name, .slice a.at_.1 a.args.length a.at_.2] 27)).alloc (.cells #[.int .i64 b.kind, .int .i64 b.n, .string b.name, .slice b.at_.1 b.args.length b.at_.2] 27))) :=
          ⟨Turned.refl _ _, hm2, fun i x hx => ⟨(hg i x hx).1.turned0 h2.1, (hg i x hx).2⟩, rfl, by simp [Tm.sizes]⟩
        have HA0 : Hid (((w.alloc (.cells #[.int .i64 a.kind, .int .i64 a.n, .string a.name, .slice a.at_.1 a.args.length a.at_.2] 27)).alloc (.cells #[.int .i64 b.kind, .int .i64 b.n, .string b.name, .slice b.at_.1 b.args.length b.at_.2] 27)).heap[w.heap.size]? = some (.cells #[.int .i64 a.kind, .int .i64 a.n, .string a.name, .slice a.at_.1 a.args.length a.at_.2] 27 (0, 0))) := h2.2.2.1
        have HSZ := Lib.hid h2.2.1
        rw [LT.val_eq a, LT.val_eq b]
        rw [← c4] at HB2 HA0 HTB HSZ hini ⊢
        have HC4 := Lib.hid c4
        obtain ⟨ad, had⟩ : ∃ z, z = a.at_.1 := ⟨_, rfl⟩
        obtain ⟨ca, hca⟩ : ∃ z, z = a.at_.2 := ⟨_, rfl⟩
        obtain ⟨bd, hbd⟩ : ∃ z, z = b.at_.1 := ⟨_, rfl⟩
        obtain ⟨cb, hcb⟩ : ∃ z, z = b.at_.2 := ⟨_, rfl⟩
        rw [← had, ← hca, ← hbd, ← hcb] at HB2 HA0 HTB HSZ hini ⊢
        have HL : Hid ((∀ W, a.In p W → LT.Lies p W ad a.args) ∧ (∀ W, b.In p W → LT.Lies p W bd b.args)) := by
          rw [had, hbd]; exact ⟨fun W h => h.lies, fun W h => h.lies⟩
        have z4 : ((a.args.length : Int) != (a.args.length : Int)) = false := by simp
        clear hmo h2 hm2 hm hg ih hb ha hgb c1 c2 c3 c4 hMO had hca hbd hcb hk
        go_enter Try.func139, Try.ntmps139
        obtain ⟨_, _, _, aa3, _⟩ := cells4 HA0.out
        go_wp2_with fail
        have HTT := And.intro HB2 (And.intro HA0 (And.intro HTB (And.intro HSZ hini)))
        clear HB2 HA0 HTB HSZ hini aa3
        revert HTT
        generalize ((w.alloc (.cells #[.int .i64 a.kind, .int .i64 a.n, .string a.name, .slice ad a.args.length ca] 27)).alloc (.cells #[.int .i64 b.kind, .int .i64 b.n, .string b.name, .slice bd a.args.length cb] 27)) = w2
        intro HTT
        obtain ⟨HB2, HA0, HTB, HSZ, hini⟩ := HTT
        go_loopg [60] a.args.length (fun q i wr => ∃ (j mj : Nat) (gj : Int → Option LT), Hid (j + q = a.args.length) ∧ j ≤ a.args.length ∧ i = .int .i64 j ∧ Hid (MoreI p mb a b mn g j gj mj w2 wr))
        case atStart => exact ⟨0, mn, g, Nat.zero_add _, Nat.zero_le _, rfl, hini⟩
        case round =>
          obtain ⟨j, mj, gj, HG, hj, rfl, HI⟩ := hrel
          have TW : Turned (fun k => k = mb) w wr := (HTB.out.mono (fun _ _ f => f.elim)).trans HI.out.turned
          by_cases hjl : j < a.args.length
          · obtain ⟨x, hx⟩ : ∃ x : LT, a.args[j]? = some x := ⟨_, List.getElem?_eq_getElem hjl⟩
            obtain ⟨y, hy⟩ : ∃ y : LT, b.args[j]? = some y := ⟨_, List.getElem?_eq_getElem (by have := HC4.out; omega)⟩
            have ain := LT.In.turned TW (fun k _ hk e => hpm k hk e) (fun _ _ h => h) a HAB.out.1
            have bin := LT.In.turned TW (fun k _ hk e => hpm k hk e) (fun _ _ h => h) b HAB.out.2.1
            obtain ⟨ab, ao, rfl, _, x0, x1, x2, x3⟩ := (HL.out.1 _ ain).cell hx
            obtain ⟨bb, bo, rfl, _, y0, y1, y2, y3⟩ := (HL.out.2 _ bin).cell hy
            obtain ⟨_, _, _, a3, _⟩ := cells4 ((HI.out.turned.block _ (Array.getElem?_eq_some_iff.1 HA0.out).1 (by omega)).trans HA0.out)
            obtain ⟨_, _, _, b3, _⟩ := cells4 ((HI.out.turned.block _ (Array.getElem?_eq_some_iff.1 HB2.out).1 (by omega)).trans HB2.out)
            have hgy := goodB_arg HAB.out.2.2 (List.mem_of_getElem? hy)
            have hst := sizes_at hx
            have hst2 := sizes_take a.args (j + 1)
            have hsz2 := Tm.size_eq a
            have hle := HI.out.le
            have hcx := fun W (h : Turned (fun _ => False) wr W) => HIH.out x y W mj gj (by have := arg_depth (List.mem_of_getElem? hx); omega) ((LT.ins_iff _).1 (ain.turned0 h).args x (List.mem_of_getElem? hx)) ((LT.ins_iff _).1 (bin.turned0 h).args y (List.mem_of_getElem? hy)) hgy (HI.out.map.turned h (fun f => f)) (fun i z hz => ⟨(HI.out.ok i z hz).1.turned0 h, (HI.out.ok i z hz).2⟩) (by omega)
            rw [LT.val_eq x, LT.val_eq y] at hcx
            obtain ⟨RB, hRB⟩ : ∃ z, z = (Tm.moreM x.bare y.bare (baresM gj)).isSome := ⟨_, rfl⟩
            rw [← hRB] at hcx
            have HRB := Lib.hid hRB
            have HCX := Lib.hid hcx
            have HXY := Lib.hid (And.intro hx hy)
            have HN : Hid (mj + x.size ≤ mn + Tm.sizes (a.args.take (j + 1))) := show _ ≤ _ by omega
            have HTW := Lib.hid TW
            clear hx hy ain bin hgy hst hst2 hsz2 hle hcx hRB TW
            go_wp2_with fail
            obtain ⟨B75, HB75⟩ : ∃ B, Hid (B = (!RB)) := ⟨_, rfl⟩
            refine wp_region_hsW [63, 64, 65, 66, 67, 68, 69, 70, 71, 72, 73, 74, 75] [11] [0, 0, 0, 0, 0, 0, 0, 0, 0, 0, 0, 1, 1] [74] (fun d v => (match d with | 63 => v = .pointer (some ⟨w.heap.size, 3, none⟩) | 64 => v = .slice (some ⟨ab, ao, none⟩) a.args.length ca | 65 => v = .int .i64 (j : Int) | 66 => v = .pointer (some ⟨ab, ao + j * 4, none⟩) | 67 => v = .agg #[.int .i64 x.kind, .int .i64 x.n, .string x.name, .slice x.at_.1 x.args.length x.at_.2] | 68 => v = .pointer (some ⟨(w.heap.size + 1), 3, none⟩) | 69 => v = .slice (some ⟨bb, bo, none⟩) a.args.length cb | 70 => v = .int .i64 (j : Int) | 71 => v = .pointer (some ⟨bb, bo + j * 4, none⟩) | 72 => v = .agg #[.int .i64 y.kind, .int .i64 y.n, .string y.name, .slice y.at_.1 y.args.length y.at_.2] | 73 => v = .map (some mb) | 75 => v = .bool B75 | _ => True : Prop)) (MoreS p mb mj gj x y wr RB) (by kernel_rfl) rfl (by kernel_rfl) (by kernel_rfl) (by kernel_rfl) (by kernel_rfl) (fun _ h => h) (fun hs w w' h ht => MoreS.turned0 hs w w' h ht) ?hs ?hQ
            case hs =>
              refine ⟨?s0, ?s1, ?s2, ?s3, ?s4, ?s5, ?s6, ?s7, ?s8, ?s9, ?s10, ?s11, ?s12, trivial⟩
              case s0 =>
                refine fun hs hle => stepG_free [] [3] (by kernel_rfl) rfl ?_
                · intro ac W hT hI hO
                  have hle : hs.length ≤ 0 := hle
                  have h3 : ac.tmps.getD 3 undef = .pointer (some ⟨w.heap.size, 0, none⟩) := hO 3 (by simp)
                  show Brings Try.prog (fun v w' => Turned (fun _ => False) W w' ∧ v = .pointer (some ⟨w.heap.size, 3, none⟩)) _
                  simp only [execOp, Act.eval, h3]
                  go_simp
                  try exact ⟨Turned.refl _ _, rfl⟩
              case s1 =>
                refine fun hs hle => stepG_free [63] [] (by kernel_rfl) rfl ?_
                · intro ac W hT hI hO
                  have hle : hs.length ≤ 0 := hle
                  have h63 : ac.tmps.getD 63 undef = .pointer (some ⟨w.heap.size, 3, none⟩) := hI 63 (by simp)
                  show Brings Try.prog (fun v w' => Turned (fun _ => False) W w' ∧ v = .slice (some ⟨ab, ao, none⟩) a.args.length ca) _
                  have hT0 : Turned (fun _ => False) wr W := more_nil hle hT; have a3 := hT0.cell0 a3; have b3 := hT0.cell0 b3; have x0 := hT0.cell0 x0; have x1 := hT0.cell0 x1; have x2 := hT0.cell0 x2; have x3 := hT0.cell0 x3; have y0 := hT0.cell0 y0; have y1 := hT0.cell0 y1; have y2 := hT0.cell0 y2; have y3 := hT0.cell0 y3
                  simp only [execOp, Act.eval, h63]
                  go_simp
                  exact ⟨Turned.refl _ _, rfl⟩
              case s2 =>
                refine fun hs hle => stepG_free [] [9] (by kernel_rfl) rfl ?_
                · intro ac W hT hI hO
                  have hle : hs.length ≤ 0 := hle
                  have h9 : ac.tmps.getD 9 undef = .int .i64 (j : Int) := hO 9 (by simp)
                  show Brings Try.prog (fun v w' => Turned (fun _ => False) W w' ∧ v = .int .i64 (j : Int)) _
                  simp only [execOp, Act.eval, h9]
                  go_simp
                  try exact ⟨Turned.refl _ _, rfl⟩
              case s3 =>
                refine fun hs hle => stepG_free [64, 65] [] (by kernel_rfl) rfl ?_
                · intro ac W hT hI hO
                  have hle : hs.length ≤ 0 := hle
                  have h64 : ac.tmps.getD 64 undef = .slice (some ⟨ab, ao, none⟩) a.args.length ca := hI 64 (by simp)
                  have h65 : ac.tmps.getD 65 undef = .int .i64 (j : Int) := hI 65 (by simp)
                  show Brings Try.prog (fun v w' => Turned (fun _ => False) W w' ∧ v = .pointer (some ⟨ab, ao + j * 4, none⟩)) _
                  simp only [execOp, Act.eval, h64, h65]
                  go_simp
                  try rw [if_pos (by omega)]
                  try exact ⟨Turned.refl _ _, rfl⟩
              case s4 =>
                refine fun hs hle => stepG_free [66] [] (by kernel_rfl) rfl ?_
                · intro ac W hT hI hO
                  have hle : hs.length ≤ 0 := hle
                  have h66 : ac.tmps.getD 66 undef = .pointer (some ⟨ab, ao + j * 4, none⟩) := hI 66 (by simp)
                  show Brings Try.prog (fun v w' => Turned (fun _ => False) W w' ∧ v = .agg #[.int .i64 x.kind, .int .i64 x.n, .string x.name, .slice x.at_.1 x.args.length x.at_.2]) _
                  have hT0 : Turned (fun _ => False) wr W := more_nil hle hT; have a3 := hT0.cell0 a3; have b3 := hT0.cell0 b3; have x0 := hT0.cell0 x0; have x1 := hT0.cell0 x1; have x2 := hT0.cell0 x2; have x3 := hT0.cell0 x3; have y0 := hT0.cell0 y0; have y1 := hT0.cell0 y1; have y2 := hT0.cell0 y2; have y3 := hT0.cell0 y3
                  simp only [execOp, Act.eval, h66]
                  go_simp
                  exact ⟨Turned.refl _ _, rfl⟩
              case s5 =>
                refine fun hs hle => stepG_free [] [4] (by kernel_rfl) rfl ?_
                · intro ac W hT hI hO
                  have hle : hs.length ≤ 0 := hle
                  have h4 : ac.tmps.getD 4 undef = .pointer (some ⟨(w.heap.size + 1), 0, none⟩) := hO 4 (by simp)
                  show Brings Try.prog (fun v w' => Turned (fun _ => False) W w' ∧ v = .pointer (some ⟨(w.heap.size + 1), 3, none⟩)) _
                  simp only [execOp, Act.eval, h4]
                  go_simp
                  try exact ⟨Turned.refl _ _, rfl⟩
              case s6 =>
                refine fun hs hle => stepG_free [68] [] (by kernel_rfl) rfl ?_
                · intro ac W hT hI hO
                  have hle : hs.length ≤ 0 := hle
                  have h68 : ac.tmps.getD 68 undef = .pointer (some ⟨(w.heap.size + 1), 3, none⟩) := hI 68 (by simp)
                  show Brings Try.prog (fun v w' => Turned (fun _ => False) W w' ∧ v = .slice (some ⟨bb, bo, none⟩) a.args.length cb) _
                  have hT0 : Turned (fun _ => False) wr W := more_nil hle hT; have a3 := hT0.cell0 a3; have b3 := hT0.cell0 b3; have x0 := hT0.cell0 x0; have x1 := hT0.cell0 x1; have x2 := hT0.cell0 x2; have x3 := hT0.cell0 x3; have y0 := hT0.cell0 y0; have y1 := hT0.cell0 y1; have y2 := hT0.cell0 y2; have y3 := hT0.cell0 y3
                  simp only [execOp, Act.eval, h68]
                  go_simp
                  exact ⟨Turned.refl _ _, rfl⟩
              case s7 =>
                refine fun hs hle => stepG_free [] [9] (by kernel_rfl) rfl ?_
                · intro ac W hT hI hO
                  have hle : hs.length ≤ 0 := hle
                  have h9 : ac.tmps.getD 9 undef = .int .i64 (j : Int) := hO 9 (by simp)
                  show Brings Try.prog (fun v w' => Turned (fun _ => False) W w' ∧ v = .int .i64 (j : Int)) _
                  simp only [execOp, Act.eval, h9]
                  go_simp
                  try exact ⟨Turned.refl _ _, rfl⟩
              case s8 =>
                refine fun hs hle => stepG_free [69, 70] [] (by kernel_rfl) rfl ?_
                · intro ac W hT hI hO
                  have hle : hs.length ≤ 0 := hle
                  have h69 : ac.tmps.getD 69 undef = .slice (some ⟨bb, bo, none⟩) a.args.length cb := hI 69 (by simp)
                  have h70 : ac.tmps.getD 70 undef = .int .i64 (j : Int) := hI 70 (by simp)
                  show Brings Try.prog (fun v w' => Turned (fun _ => False) W w' ∧ v = .pointer (some ⟨bb, bo + j * 4, none⟩)) _
                  simp only [execOp, Act.eval, h69, h70]
                  go_simp
                  try rw [if_pos (by omega)]
                  try exact ⟨Turned.refl _ _, rfl⟩
              case s9 =>
                refine fun hs hle => stepG_free [71] [] (by kernel_rfl) rfl ?_
                · intro ac W hT hI hO
                  have hle : hs.length ≤ 0 := hle
                  have h71 : ac.tmps.getD 71 undef = .pointer (some ⟨bb, bo + j * 4, none⟩) := hI 71 (by simp)
                  show Brings Try.prog (fun v w' => Turned (fun _ => False) W w' ∧ v = .agg #[.int .i64 y.kind, .int .i64 y.n, .string y.name, .slice y.at_.1 y.args.length y.at_.2]) _
                  have hT0 : Turned (fun _ => False) wr W := more_nil hle hT; have a3 := hT0.cell0 a3; have b3 := hT0.cell0 b3; have x0 := hT0.cell0 x0; have x1 := hT0.cell0 x1; have x2 := hT0.cell0 x2; have x3 := hT0.cell0 x3; have y0 := hT0.cell0 y0; have y1 := hT0.cell0 y1; have y2 := hT0.cell0 y2; have y3 := hT0.cell0 y3
                  simp only [execOp, Act.eval, h71]
                  go_simp
                  exact ⟨Turned.refl _ _, rfl⟩
              case s10 =>
                refine fun hs hle => stepG_free [] [2] (by kernel_rfl) rfl ?_
                · intro ac W hT hI hO
                  have hle : hs.length ≤ 0 := hle
                  have h2 : ac.tmps.getD 2 undef = .map (some mb) := hO 2 (by simp)
                  show Brings Try.prog (fun v w' => Turned (fun _ => False) W w' ∧ v = .map (some mb)) _
                  simp only [execOp, Act.eval, h2]
                  go_simp
                  try exact ⟨Turned.refl _ _, rfl⟩
              case s11 =>
                refine fun hs hlen => stepG_free [67, 72, 73] [] (by kernel_rfl) rfl ?_
                · intro ac W hT hI hO
                  have h67 : ac.tmps.getD 67 undef = .agg #[.int .i64 x.kind, .int .i64 x.n, .string x.name, .slice x.at_.1 x.args.length x.at_.2] := hI 67 (by simp)
                  have h72 : ac.tmps.getD 72 undef = .agg #[.int .i64 y.kind, .int .i64 y.n, .string y.name, .slice y.at_.1 y.args.length y.at_.2] := hI 72 (by simp)
                  have h73 : ac.tmps.getD 73 undef = .map (some mb) := hI 73 (by simp)
                  show Brings Try.prog (fun v w' => MoreS p mb mj gj x y wr RB (hs ++ [v]) w') _
                  obtain rfl : hs = [] := List.eq_nil_of_length_eq_zero hlen
                  replace hT : Turned (fun _ => False) wr W := hT
                  simp only [execOp, Act.eval, h67, h72, h73]
                  go_simp
                  show Calls Try.prog 139 _ W _
                  (with_reducible refine (HCX.out W hT).mono ?_)
                  rintro e w' ⟨rfl, T', hP⟩
                  exact ⟨_, rfl, RB, rfl, rfl, (hT.mono (fun _ _ f => f.elim)).trans T', hP⟩
              case s12 =>
                refine fun hs hle => stepG_free [74] [] (by kernel_rfl) rfl ?_
                · intro ac W hT hI hO
                  have hle : hs.length ≤ 1 := hle
                  have h74 : hs[0]? = some (ac.tmps.getD 74 undef) := hI 74 (by simp)
                  replace h74 : ac.tmps.getD 74 undef = .bool RB := more_val hs W hT _ h74
                  show Brings Try.prog (fun v w' => Turned (fun _ => False) W w' ∧ v = .bool B75) _
                  rw [HB75.out]
                  simp only [execOp, Act.eval, h74]
                  go_simp
                  try exact ⟨Turned.refl _ _, rfl⟩
            case hQ =>
              intro hs vq w7 hlen hR hV
              obtain ⟨v, rfl⟩ := List.length_eq_one_iff.1 hlen
              obtain ⟨b', rfl, hbr, T7, hP⟩ := hR
              have q75 : vq 75 = .bool B75 := hV 75 (by simp)
              simp only [List.foldl_cons, List.foldl_nil, List.setIfInBounds_toArray, List.set_cons_zero, List.set_cons_succ, q75]
              have hrest := HI.out.rest
              rw [drop_bares HXY.out.1, drop_bares HXY.out.2, moresM_cons] at hrest
              have TW7 := HTW.out.trans T7
              cases hmx : Tm.moreM x.bare y.bare (baresM gj) with
              | none =>
                have hb75 : B75 = true := by rw [HB75.out, HRB.out, hmx]; rfl
                rw [hmx] at hrest
                have HMN : Hid (MO = none) := by show _ = _; rw [HMO.out]; exact hrest
                clear hV q75 hrest hP hmx
                subst hb75
                go_wp2_with fail
                go_ret
                rw [HMN.out]
                exact ⟨rfl, TW7, fun m' hm' => by cases hm'⟩
              | some m' =>
                have hb75 : B75 = false := by rw [HB75.out, HRB.out, hmx]; rfl
                rw [hmx] at hrest
                obtain ⟨mj', gj', h1, h3, h4, h5⟩ := hP m' hmx
                have HI' : Hid (MoreI p mb a b mn g (j + 1) gj' mj' w2 w7) := ⟨HI.out.turned.trans T7, h3, h5, by rw [h4]; exact hrest, Nat.le_trans h1 HN.out⟩
                clear hV q75 hrest hP hmx h1 h3 h4 h5
                subst hb75
                go_wp2_with fail
                go_roundg (gk - 1)
                case measure => have := HG.out; omega
                case rel => exact ⟨j + 1, mj', gj', show _ = _ by have := HG.out; omega, by omega, by go_num, HI'⟩
          · obtain rfl : j = a.args.length := by omega
            have hrest := HI.out.rest
            rw [show (Tm.bares a.args).drop a.args.length = [] from List.drop_of_length_le (by rw [Tm.bares_length]; omega), moresM_nil] at hrest
            have HMS : Hid (MO = some (baresM gj)) := by show _ = _; rw [HMO.out]; exact hrest
            clear hrest
            go_wp2_with fail
            go_ret
            rw [HMS.out]
            refine ⟨rfl, TW, fun m' hm' => ?_⟩
            injection hm' with hm'
            subst hm'
            have hle := HI.out.le
            rw [List.take_length] at hle
            have hsz2 := Tm.size_eq a
            exact ⟨mj, gj, by omega, HI.out.map, rfl, HI.out.ok⟩
      · rw [if_neg hc] at hmo
        rw [hmo]
        have fin : ∀ W, Turned (fun _ => False) ((w.alloc (.cells #[.int .i64 a.kind, .int .i64 a.n, .string a.name, .slice a.at_.1 a.args.length a.at_.2] 27)).alloc (.cells #[.int .i64 b.kind, .int .i64 b.n, .string b.name, .slice b.at_.1 b.args.length b.at_.2] 27)) W → Ending.returned (.bool false) = .returned (.bool (none : Option Tm.MM).isSome) ∧ Turned (fun k => k = mb) w W ∧ MoreP p mb (mn + a.size) none W := fun W h =>
          ⟨rfl, (HTB.out.trans h).mono (fun _ _ f => f.elim), fun m' hm' => by cases hm'⟩
        have FIN := Lib.hid fin
        rw [LT.val_eq a, LT.val_eq b]
        clear hmo h2 hm2 hm hg ih hb ha hgb fin
        by_cases c1 : a.kind = b.kind
        · have z1 : (a.kind != b.kind) = false := by simp [c1]
          by_cases c2 : a.n = b.n
          · have z2 : (a.n != b.n) = false := by simp [c2]
            by_cases c3 : a.name = b.name
            · have z3 : (a.name.toList == b.name.toList) = true := by simp [c3]
              have c4 : a.args.length ≠ b.args.length := fun h => hc ⟨c1, c2, c3, h⟩
              obtain ⟨la, hla⟩ : ∃ z, z = a.args.length := ⟨_, rfl⟩
              obtain ⟨lb, hlb⟩ : ∃ z, z = b.args.length := ⟨_, rfl⟩
              rw [← hla, ← hlb] at c4
              have z4 : ((la : Int) != (lb : Int)) = true := by simp; omega
              have z5 : (la != lb) = true := by simp; exact c4
              rw [← hla, ← hlb] at FIN HB2 HTB ⊢
              clear c1 c2 c3 c4 hc hla hlb
              go_enter Try.func139, Try.ntmps139
              go_wp2_with fail
              go_ret
              exact FIN.out _ (Turned.refl _ _)
            · have z3 : (a.name.toList == b.name.toList) = false := by
                rw [beq_eq_false_iff_ne]; exact fun h => c3 ((bytes_eq _ _).1 h)
              clear c1 c2 c3 hc
              go_enter Try.func139, Try.ntmps139
              go_wp2_with fail
              go_ret
              exact FIN.out _ (Turned.refl _ _)
          · have z2 : (a.n != b.n) = true := by simp [c2]
            clear c1 c2 hc
            go_enter Try.func139, Try.ntmps139
            go_wp2_with fail
            go_ret
            exact FIN.out _ (Turned.refl _ _)
        · have z1 : (a.kind != b.kind) = true := by simp [c1]
          clear c1 hc
          go_enter Try.func139, Try.ntmps139
          go_wp2_with fail
          go_ret
          exact FIN.out _ (Turned.refl _ _)
end Go.Proofs.Ytoihjobdfjajfaa
