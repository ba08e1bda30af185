/- A watch in memory; what a frame to a connection turns in it ((*Watch).back). -/
import Derived.Test.YtghjhcobmbobcaaWp
import Derived.Test.YtghjhcobmbobcaaSh
import Derived.WalkKit
import Derived.Lib.Hide
import Derived.Below
namespace Go.Proofs.Ytghjhcobmbobcaa.Wt
open Go.RowKit Go.Proofs.Ytghjhcobmbobcaa.Mp Go.Proofs.Ytghjhcobmbobcaa

theorem uInt : Try.prog.underlying 3 = some (.int .i64) := Try.underlying3
noncomputable def eN := num (P := Try.prog) (e := 3) uInt
/-- From where on a watch's blocks lie; other blocks that stay as they are (X), as in w0. -/
structure Bs where
  lo : Nat
  X : Nat → Prop
  w0 : World
instance : Coe Bs Nat := ⟨Bs.lo⟩
abbrev Bs.at (w : World) : Bs := ⟨w.heap.size, fun _ => False, w⟩
def XF (base : Bs) (w : World) (b mb cb : Nat) : Prop := ∀ k, base.X k → base.lo ≤ k ∧ k < w.heap.size ∧ w.heap[k]? = base.w0.heap[k]? ∧ k ≠ b ∧ k ≠ mb ∧ k ≠ cb
theorem XF.move {base : Bs} {w w' : World} {b mb cb : Nat} (h : XF base w b mb cb) (hm : ∀ k, k ≠ b → k ≠ mb → k ≠ cb → base.lo ≤ k → k < w.heap.size → w'.heap[k]? = w.heap[k]?) : XF base w' b mb cb := fun k hk => by
  obtain ⟨h1, h2, h3, h4, h5, h6⟩ := h k hk
  have e := hm k h4 h5 h6 h1 h2
  refine ⟨h1, ?_, e.trans h3, h4, h5, h6⟩
  rcases Nat.lt_or_ge k w'.heap.size with hl | hl
  · exact hl
  · rw [Array.getElem?_eq_none hl, Array.getElem?_eq_getElem h2] at e; cases e
theorem XF.kept {base : Bs} {w w' : World} {b mb cb r : Nat} (h : XF base w b mb cb) (hg : w.grownBy w' (some r)) (hr : r = b ∨ r = mb ∨ r = cb) : XF base w' b mb cb := h.move fun k h1 h2 h3 _ hl => hg.block k hl (by
  intro e
  injection e with e
  rcases hr with hr | hr | hr
  · exact h1 (e.trans hr)
  · exact h2 (e.trans hr)
  · exact h3 (e.trans hr))
/-- The watch in block b, of at most n entries, that knows s; its blocks lie from base on. -/
def WAt (base : Bs) (w : World) (b n : Nat) (s : St) : Prop := ∃ mb cb, w.heap[b]? = some (.cells #[.int .i64 s.top, .map (some mb), .map (some cb)] 51 (0, 0)) ∧
  MapOf eN Try.prog 3 w mb n s.nx ∧ MapOf pair Try.prog 3 w cb n s.cl ∧ base ≤ b ∧ base ≤ mb ∧ base ≤ cb ∧ b ≠ mb ∧ b ≠ cb ∧ mb ≠ cb ∧ XF base w b mb cb
theorem WAt.move {base : Bs} {w w' : World} {b n : Nat} {s : St} (h : WAt base w b n s) (hm : ∀ k, base.lo ≤ k → k < w.heap.size → w'.heap[k]? = w.heap[k]?) : WAt base w' b n s := by
  obtain ⟨mb, cb, h1, h2, h3, h4, h5, h6, h7, h8, h9, h10⟩ := h
  exact ⟨mb, cb, (hm b h4 (Array.getElem?_eq_some_iff.1 h1).1).trans h1, h2.move (hm mb h5 h2.lt), h3.move (hm cb h6 h3.lt), h4, h5, h6, h7, h8, h9, h10.move fun k _ _ _ hl hs => hm k hl hs⟩
theorem WAt.below {base : Bs} {w w' : World} {b n : Nat} {s : St} (h : WAt base w b n s) (hb : Below w.heap.size w w') : WAt base w' b n s := h.move fun k _ hk => hb.block k hk
theorem WAt.mono {base : Bs} {w : World} {b n m : Nat} {s : St} (h : WAt base w b n s) (hn : n ≤ m) : WAt base w b m s := by
  obtain ⟨mb, cb, h1, h2, h3, r⟩ := h
  exact ⟨mb, cb, h1, h2.mono hn, h3.mono hn, r⟩
theorem WAt.size {base : Bs} {w : World} {b n : Nat} {s : St} (h : WAt base w b n s) : base ≤ w.heap.size := by
  obtain ⟨mb, cb, h1, _, _, h4, _⟩ := h
  have := (Array.getElem?_eq_some_iff.1 h1).1
  omega

section
variable {ops : Array Oper} {rest : List Oper} {o : Oper} {a : Act} {Q : Exit → Act → World → Prop}
theorem look_num (w : World) (hg : o.guard = none) (m x : Operand) (hop : o.op = Op.lookup 48 m x false) (b n : Nat) (f : Int → Fin 4) (i z : Int) (hm : a.eval m = .map (some b)) (hx : a.eval x = .int .i64 i) (hi : (Lit.int .i64 i).wf = true) (h : MapOf eN Try.prog 3 w b n f)
    (hz : ((f i).val : Int) = z) (hK : wpList Try.prog ops Q rest (a.put o.dst (.int .i64 z)) w) : wpList Try.prog ops Q (o :: rest) a w :=
  wp_look eN w hg m x 48 hop uInt Try.underlying48 (e := 3) (by kernel_rfl) b n f i hm hx hi h (by
    show wpList _ _ _ _ (a.put o.dst (.int .i64 ((f i).val : Int))) w
    rw [hz]; exact hK)
theorem store_num (w : World) (hg : o.guard = none) (m x y : Operand) (hop : o.op = Op.mapUpdate 48 m x y) (b n : Nat) (f : Int → Fin 4) (i : Int) (v : Fin 4) (hm : a.eval m = .map (some b)) (hx : a.eval x = .int .i64 i) (hv : a.eval y = .int .i64 (v.val : Int)) (hi : (Lit.int .i64 i).wf = true) (hn : n < maxLen) (h0 : v ≠ 0) (h : MapOf eN Try.prog 3 w b n f)
    (hK : ∀ w', MapOf eN Try.prog 3 w' b (n + 1) (upd f i v) → w.grownBy w' (some b) → wpList Try.prog ops Q rest (a.put o.dst undef) w') : wpList Try.prog ops Q (o :: rest) a w :=
  wp_store eN w hg m x y 48 hop uInt Try.underlying48 b n f i v hm hx hv hi hn (fun _ => h0) h hK
end

/-- What a contract over a watch says. -/
def WPost (base : Bs) (b n : Nat) (w : World) (r : St × Int) (e : Ending) (w' : World) : Prop := e = .returned (.int .i64 r.2) ∧ WAt base w' b (n + 1) r.1 ∧ Below base w w'
theorem WAt.cell {base : Bs} {w : World} {b n : Nat} {s : St} (h : WAt base w b n s) : ∃ mb cb, w.cell? ⟨b, 0, none⟩ = some (.int .i64 s.top) ∧ w.cell? ⟨b, 1, none⟩ = some (.map (some mb)) ∧ w.cell? ⟨b, 2, none⟩ = some (.map (some cb)) ∧ MapOf eN Try.prog 3 w mb n s.nx ∧ MapOf pair Try.prog 3 w cb n s.cl ∧
    (∀ w' f, MapOf eN Try.prog 3 w' mb (n + 1) f → w.grownBy w' (some mb) → WAt base w' b (n + 1) { s with nx := f } ∧ Below base w w') ∧ (∀ w' f, MapOf pair Try.prog 3 w' cb (n + 1) f → w.grownBy w' (some cb) → WAt base w' b (n + 1) { s with cl := f } ∧ Below base w w') := by
  have hsz := h.size
  obtain ⟨mb, cb, h1, h2, h3, h4, h5, h6, h7, h8, h9, h10⟩ := h
  refine ⟨mb, cb, by simp [World.cell?, h1], by simp [World.cell?, h1], by simp [World.cell?, h1], h2, h3, fun w' f hf hg => ?_, fun w' f hf hg => ?_⟩
  · have hb := (Below.refl base w).grown hg hsz (fun k hk => by cases hk; exact h5)
    refine ⟨⟨mb, cb, ?_, hf, ?_, h4, h5, h6, h7, h8, h9, h10.kept hg (.inr (.inl rfl))⟩, hb⟩
    · rw [hg.block b (Array.getElem?_eq_some_iff.1 h1).1 (by simpa using h7)]; exact h1
    · exact (h3.kept hg (by simpa using h9.symm)).mono (Nat.le_succ n)
  · have hb := (Below.refl base w).grown hg hsz (fun k hk => by cases hk; exact h6)
    refine ⟨⟨mb, cb, ?_, ?_, hf, h4, h5, h6, h7, h8, h9, h10.kept hg (.inr (.inr rfl))⟩, hb⟩
    · rw [hg.block b (Array.getElem?_eq_some_iff.1 h1).1 (by simpa using h8)]; exact h1
    · exact (h2.kept hg (by simpa using h9)).mono (Nat.le_succ n)
theorem WAt.same {base : Bs} {w : World} {b n : Nat} {s : St} (h : WAt base w b n s) (z : Int) : WPost base b n w (s, z) (.returned (.int .i64 z)) w := ⟨rfl, h.mono (Nat.le_succ n), Below.refl _ _⟩

/-- A frame that turns nothing: z is the error. -/
theorem back_keep (base : Bs) (b n : Nat) (s : St) (id fk z v : Int) (w : World) (h : WAt base w b n s) (hi : (Lit.int .i64 id).wf = true) (hv : ((s.nx id).val : Int) = v)
    (hz : (v = 0 ∧ z = 5) ∨ (z = 8 ∧ ((v = 1 ∧ fk ≠ 1) ∨ (v = 2 ∧ fk ≠ 2) ∨ (v = 3 ∧ fk ≠ 3 ∧ fk ≠ 4 ∧ fk ≠ 5)))) :
    Calls Try.prog 23 #[.pointer (some ⟨b, 0, none⟩), .int .i64 id, .int .i64 fk] w (WPost base b n w (s, z)) := by
  obtain ⟨mb, cb, _, c1, _, hm, _, _, _⟩ := h.cell
  have HS := Lib.hid (h.same z)
  clear h
  rcases hz with ⟨rfl, rfl⟩ | ⟨rfl, ⟨rfl, h1⟩ | ⟨rfl, h1⟩ | ⟨rfl, h3, h4, h5⟩⟩
  · go_enter Try.func23, Try.ntmps23
    go_wp2_with (at_lookup; refine look_num _ rfl _ _ rfl mb n _ id 0 rfl rfl hi hm hv ?_)
    go_ret
    exact HS.out
  · have t1 : (fk == 1) = false := beq_eq_false_iff_ne.2 h1
    go_enter Try.func23, Try.ntmps23
    go_wp2_with (at_lookup; refine look_num _ rfl _ _ rfl mb n _ id 1 rfl rfl hi hm hv ?_)
    go_ret
    exact HS.out
  · have t1 : (fk == 2) = false := beq_eq_false_iff_ne.2 h1
    go_enter Try.func23, Try.ntmps23
    go_wp2_with (at_lookup; refine look_num _ rfl _ _ rfl mb n _ id 2 rfl rfl hi hm hv ?_)
    go_ret
    exact HS.out
  · have t1 : (fk == 3) = false := beq_eq_false_iff_ne.2 h3
    have t2 : (fk == 4) = false := beq_eq_false_iff_ne.2 h4
    have t3 : (fk == 5) = false := beq_eq_false_iff_ne.2 h5
    go_enter Try.func23, Try.ntmps23
    go_wp2_with (at_lookup; refine look_num _ rfl _ _ rfl mb n _ id 3 rfl rfl hi hm hv ?_)
    go_ret
    exact HS.out
/-- A frame that turns what comes next to u. -/
theorem back_turn (base : Bs) (b n : Nat) (s : St) (id fk v : Int) (u : Fin 4) (w : World) (h : WAt base w b n s) (hn : n < 1000) (hi : (Lit.int .i64 id).wf = true) (hv : ((s.nx id).val : Int) = v)
    (hz : (u = 2 ∧ ((v = 1 ∧ fk = 1) ∨ (v = 3 ∧ fk = 4) ∨ (v = 3 ∧ fk = 5))) ∨ (u = 3 ∧ ((v = 2 ∧ fk = 2) ∨ (v = 3 ∧ fk = 3)))) :
    Calls Try.prog 23 #[.pointer (some ⟨b, 0, none⟩), .int .i64 id, .int .i64 fk] w (WPost base b n w ({ s with nx := upd s.nx id u }, 0)) := by
  obtain ⟨mb, cb, _, c1, _, hm, _, hT, _⟩ := h.cell
  have HT := Lib.hid hT
  clear h hT
  have hn2 : n < maxLen := by unfold maxLen; omega
  rcases hz with ⟨rfl, hz⟩ | ⟨rfl, hz⟩
  · rcases hz with ⟨rfl, rfl⟩ | ⟨rfl, rfl⟩ | ⟨rfl, rfl⟩
    all_goals
      go_enter Try.func23, Try.ntmps23
      go_wp2_with (first | (at_lookup; refine look_num _ rfl _ _ rfl mb n _ id _ rfl rfl hi hm hv ?_) | (at_mapUpdate; refine store_num _ rfl _ _ _ rfl mb n _ id 2 rfl rfl rfl hi hn2 (by decide) hm ?_; intro w1 hm1 hg1; have HA := Lib.hid (HT.out w1 _ hm1 hg1); clear hm1 hg1))
      go_ret
      exact ⟨rfl, HA.out⟩
  · rcases hz with ⟨rfl, rfl⟩ | ⟨rfl, rfl⟩
    all_goals
      go_enter Try.func23, Try.ntmps23
      go_wp2_with (first | (at_lookup; refine look_num _ rfl _ _ rfl mb n _ id _ rfl rfl hi hm hv ?_) | (at_mapUpdate; refine store_num _ rfl _ _ _ rfl mb n _ id 3 rfl rfl rfl hi hn2 (by decide) hm ?_; intro w1 hm1 hg1; have HA := Lib.hid (HT.out w1 _ hm1 hg1); clear hm1 hg1))
      go_ret
      exact ⟨rfl, HA.out⟩
theorem back_any (base : Bs) (b n : Nat) (s : St) (id fk : Int) (w : World) (h : WAt base w b n s) (hn : n < 1000) (hi : (Lit.int .i64 id).wf = true) :
    Calls Try.prog 23 #[.pointer (some ⟨b, 0, none⟩), .int .i64 id, .int .i64 fk] w (WPost base b n w (backV s id fk)) := by
  have hv : s.nx id = 0 ∨ s.nx id = 1 ∨ s.nx id = 2 ∨ s.nx id = 3 := by
    have := (s.nx id).isLt
    generalize s.nx id = v at this ⊢
    revert v; decide
  unfold backV
  rcases hv with hv | hv | hv | hv
  · rw [if_pos hv]; exact back_keep base b n s id fk 5 0 w h hi (by rw [hv]; rfl) (.inl ⟨rfl, rfl⟩)
  · rw [hv, if_neg (by decide)]
    by_cases f1 : fk = 1
    · rw [if_pos (.inl ⟨rfl, f1⟩)]; exact back_turn base b n s id fk 1 2 w h hn hi (by rw [hv]; rfl) (.inl ⟨rfl, .inl ⟨rfl, f1⟩⟩)
    · rw [if_neg (by intro e; rcases e with e | e; exact f1 e.2; exact absurd e.1 (by decide)), if_neg (by intro e; rcases e with e | e; exact absurd e.1 (by decide); exact absurd e.1 (by decide))]
      exact back_keep base b n s id fk 8 1 w h hi (by rw [hv]; rfl) (.inr ⟨rfl, .inl ⟨rfl, f1⟩⟩)
  · rw [hv, if_neg (by decide), if_neg (by intro e; rcases e with e | e; exact absurd e.1 (by decide); exact absurd e.1 (by decide))]
    by_cases f2 : fk = 2
    · rw [if_pos (.inl ⟨rfl, f2⟩)]; exact back_turn base b n s id fk 2 3 w h hn hi (by rw [hv]; rfl) (.inr ⟨rfl, .inl ⟨rfl, f2⟩⟩)
    · rw [if_neg (by intro e; rcases e with e | e; exact f2 e.2; exact absurd e.1 (by decide))]
      exact back_keep base b n s id fk 8 2 w h hi (by rw [hv]; rfl) (.inr ⟨rfl, .inr (.inl ⟨rfl, f2⟩)⟩)
  · rw [hv, if_neg (by decide)]
    by_cases f4 : fk = 4
    · rw [if_pos (.inr ⟨rfl, .inl f4⟩)]; exact back_turn base b n s id fk 3 2 w h hn hi (by rw [hv]; rfl) (.inl ⟨rfl, .inr (.inl ⟨rfl, f4⟩)⟩)
    · by_cases f5 : fk = 5
      · rw [if_pos (.inr ⟨rfl, .inr f5⟩)]; exact back_turn base b n s id fk 3 2 w h hn hi (by rw [hv]; rfl) (.inl ⟨rfl, .inr (.inr ⟨rfl, f5⟩)⟩)
      · rw [if_neg (by intro e; rcases e with e | e; exact absurd e.1 (by decide); rcases e.2 with e | e; exact f4 e; exact f5 e)]
        by_cases f3 : fk = 3
        · rw [if_pos (.inr ⟨rfl, f3⟩)]; exact back_turn base b n s id fk 3 3 w h hn hi (by rw [hv]; rfl) (.inr ⟨rfl, .inr ⟨rfl, f3⟩⟩)
        · rw [if_neg (by intro e; rcases e with e | e; exact absurd e.1 (by decide); exact f3 e.2)]
          exact back_keep base b n s id fk 8 3 w h hi (by rw [hv]; rfl) (.inr ⟨rfl, .inr (.inr ⟨rfl, f3, f4, f5⟩)⟩)
end Go.Proofs.Ytghjhcobmbobcaa.Wt
