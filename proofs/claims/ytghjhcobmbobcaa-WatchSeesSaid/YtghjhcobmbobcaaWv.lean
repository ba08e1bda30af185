/- Two watches in one world, and what each of them answers. -/
import Derived.Test.YtghjhcobmbobcaaWd
import Derived.Test.YtghjhcobmbobcaaWl
import Derived.Test.YtghjhcobmbobcaaWq
import Derived.Test.YtghjhcobmbobcaaWu
namespace Go.Proofs.Ytghjhcobmbobcaa.Wt
open Go.RowKit Go.Proofs.Ytghjhcobmbobcaa.Mp Go.Proofs.Ytghjhcobmbobcaa

theorem seeV_keep (r : Bool) (s : St) (o : OutV) (h : (seeV r s o).2 ≠ 0) : (seeV r s o).1 = s := by
  unfold seeV frontV backV at h ⊢
  repeat' split
  all_goals first | rfl | (exfalso; apply h; repeat' split) <;> first | rfl | contradiction
/-- Two watches, apart from each other. -/
def Two (base : Nat) (w : World) (a b n : Nat) (s t : St) : Prop := ∃ ma ca mb cb, WX ⟨base, fun k => k = b ∨ k = mb ∨ k = cb, w⟩ w a n s ma ca ∧ WX ⟨base, fun k => k = a ∨ k = ma ∨ k = ca, w⟩ w b n t mb cb
section
variable {base : Nat} {w w' : World} {a b n : Nat} {s t : St}
theorem Two.symm (h : Two base w a b n s t) : Two base w b a n t s := by
  obtain ⟨ma, ca, mb, cb, h1, h2⟩ := h
  exact ⟨mb, cb, ma, ca, h2, h1⟩
theorem Two.of {ma ca mb cb : Nat} (h1 : w.heap[a]? = some (.cells #[.int .i64 s.top, .map (some ma), .map (some ca)] 51 (0, 0))) (h2 : MapOf eN Try.prog 3 w ma n s.nx) (h3 : MapOf pair Try.prog 3 w ca n s.cl) (h4 : base ≤ a) (h5 : base ≤ ma) (h6 : base ≤ ca) (h7 : a ≠ ma) (h8 : a ≠ ca) (h9 : ma ≠ ca)
    (g1 : w.heap[b]? = some (.cells #[.int .i64 t.top, .map (some mb), .map (some cb)] 51 (0, 0))) (g2 : MapOf eN Try.prog 3 w mb n t.nx) (g3 : MapOf pair Try.prog 3 w cb n t.cl) (g4 : base ≤ b) (g5 : base ≤ mb) (g6 : base ≤ cb) (g7 : b ≠ mb) (g8 : b ≠ cb) (g9 : mb ≠ cb)
    (hx : ∀ k, k = b ∨ k = mb ∨ k = cb → k ≠ a ∧ k ≠ ma ∧ k ≠ ca) : Two base w a b n s t := by
  have la := (Array.getElem?_eq_some_iff.1 h1).1
  have lb := (Array.getElem?_eq_some_iff.1 g1).1
  refine ⟨ma, ca, mb, cb, ⟨h1, h2, h3, h4, h5, h6, h7, h8, h9, fun k hk => ⟨?_, ?_, rfl, hx k hk⟩⟩, ⟨g1, g2, g3, g4, g5, g6, g7, g8, g9, fun k hk => ⟨?_, ?_, rfl, ?_⟩⟩⟩
  · rcases hk with rfl | rfl | rfl <;> assumption
  · rcases hk with rfl | rfl | rfl
    · exact lb
    · exact g2.lt
    · exact g3.lt
  · rcases hk with rfl | rfl | rfl <;> assumption
  · rcases hk with rfl | rfl | rfl
    · exact la
    · exact h2.lt
    · exact h3.lt
  · have e0 := hx b (.inl rfl)
    have e1 := hx mb (.inr (.inl rfl))
    have e2 := hx cb (.inr (.inr rfl))
    rcases hk with rfl | rfl | rfl
    · exact ⟨e0.1.symm, e1.1.symm, e2.1.symm⟩
    · exact ⟨e0.2.1.symm, e1.2.1.symm, e2.2.1.symm⟩
    · exact ⟨e0.2.2.symm, e1.2.2.symm, e2.2.2.symm⟩
/-- What is done to the one leaves the other as it was. -/
theorem Two.on (h : Two base w a b n s t) : ∃ bs : Bs, bs.lo = base ∧ WAt bs w a n s ∧ ∀ w' m s', n ≤ m → WAt bs w' a m s' → Two base w' a b m s' t := by
  obtain ⟨ma, ca, mb, cb, h1, h2⟩ := h
  refine ⟨_, rfl, h1.at, fun w' m s' hm hw => ?_⟩
  obtain ⟨ma', ca', k1, k2, k3, k4, k5, k6, k7, k8, k9, kx⟩ := hw
  obtain ⟨g1, g2, g3, g4, g5, g6, g7, g8, g9, _⟩ := h2
  have xb := kx b (.inl rfl)
  have xm := kx mb (.inr (.inl rfl))
  have xc := kx cb (.inr (.inr rfl))
  exact Two.of k1 k2 k3 k4 k5 k6 k7 k8 k9 (xb.2.2.1.trans g1) ((g2.move xm.2.2.1).mono hm) ((g3.move xc.2.2.1).mono hm) g4 g5 g6 g7 g8 g9 (fun k hk => (kx k hk).2.2.2)
theorem Two.below (h : Two base w a b n s t) (hb : Below w.heap.size w w') : Two base w' a b n s t := by
  obtain ⟨ma, ca, mb, cb, h1, h2⟩ := h
  obtain ⟨k1, k2, k3, k4, k5, k6, k7, k8, k9, kx⟩ := h1
  obtain ⟨g1, g2, g3, g4, g5, g6, g7, g8, g9, _⟩ := h2
  have la := (Array.getElem?_eq_some_iff.1 k1).1
  have lb := (Array.getElem?_eq_some_iff.1 g1).1
  exact Two.of ((hb.block a la).trans k1) (k2.move (hb.block _ k2.lt)) (k3.move (hb.block _ k3.lt)) k4 k5 k6 k7 k8 k9 ((hb.block b lb).trans g1) (g2.move (hb.block _ g2.lt)) (g3.move (hb.block _ g3.lt)) g4 g5 g6 g7 g8 g9 (fun k hk => (kx k hk).2.2.2)
theorem Two.mono {m : Nat} (h : Two base w a b n s t) (hm : n ≤ m) : Two base w a b m s t := by
  obtain ⟨bs, _, h1, h2⟩ := h.on
  exact h2 w m s hm (h1.mono hm)
theorem Two.size (h : Two base w a b n s t) : base ≤ w.heap.size := by
  obtain ⟨bs, rfl, h1, _⟩ := h.on
  exact h1.size
end
theorem Two.made {w w1 w2 : World} {a b : Nat} {s t : St} (h1 : WAt (Bs.at w) w1 a 0 s) (hb : Below w.heap.size w w1) (h2 : WAt (Bs.at w1) w2 b 0 t) (hb2 : Below w1.heap.size w1 w2) : Two w.heap.size w2 a b 0 s t := by
  obtain ⟨ma, ca, k1, k2, k3, k4, k5, k6, k7, k8, k9, _⟩ := h1
  obtain ⟨mb, cb, g1, g2, g3, g4, g5, g6, g7, g8, g9, _⟩ := h2
  have la := (Array.getElem?_eq_some_iff.1 k1).1
  have lma := k2.lt
  have lca := k3.lt
  have hs := hb.size
  have k4' : w.heap.size ≤ a := k4
  have k5' : w.heap.size ≤ ma := k5
  have k6' : w.heap.size ≤ ca := k6
  have g4' : w1.heap.size ≤ b := g4
  have g5' : w1.heap.size ≤ mb := g5
  have g6' : w1.heap.size ≤ cb := g6
  refine Two.of ((hb2.block a la).trans k1) (k2.move (hb2.block _ k2.lt)) (k3.move (hb2.block _ k3.lt)) k4' k5' k6' k7 k8 k9 g1 g2 g3 (by omega) (by omega) (by omega) g7 g8 g9 (fun k hk => ?_)
  rcases hk with rfl | rfl | rfl <;> exact ⟨by omega, by omega, by omega⟩
theorem two_seeA (base a b n : Nat) (s t : St) (o : OutV) (w : World) (h : Two base w a b n s t) (hn : n < 1000) (hs : o.text.size ≤ 1000) :
    Calls Try.prog 12 #[.pointer (some ⟨a, 0, none⟩), outArg o] w fun e w' => e = .returned (.int .i64 (seeV (rightV o) s o).2) ∧ Two base w' a b (n + 1) (seeV (rightV o) s o).1 t ∧ Below base w w' := by
  obtain ⟨bs, rfl, h1, h2⟩ := h.on
  refine (see_right bs a n s o w h1 hn hs).mono ?_
  rintro e w' ⟨he, hw, hb⟩
  exact ⟨he, h2 w' _ _ (Nat.le_succ n) hw, hb⟩
theorem two_seeB (base a b n : Nat) (s t : St) (o : OutV) (w : World) (h : Two base w a b n s t) (hn : n < 1000) (hs : o.text.size ≤ 1000) :
    Calls Try.prog 12 #[.pointer (some ⟨b, 0, none⟩), outArg o] w fun e w' => e = .returned (.int .i64 (seeV (rightV o) t o).2) ∧ Two base w' a b (n + 1) s (seeV (rightV o) t o).1 ∧ Below base w w' := by
  refine (two_seeA base b a n t s o w h.symm hn hs).mono ?_
  rintro e w' ⟨he, hw, hb⟩
  exact ⟨he, hw.symm, hb⟩

/-! ### the four lists: each is one list -/
def IsConns (so : Int → Bool) (s : St) (l : List Int) : Prop := l.length ≤ 1000 ∧ l.Nodup ∧ (∀ i ∈ l, (Lit.int .i64 i).wf = true) ∧ ∀ i, (Lit.int .i64 i).wf = true → (i ∈ l ↔ s.nx i ≠ 0 ∧ so ((s.nx i).val : Int) = true)
def IsOf (so : Bool × Bool → Bool) (s : St) (l : List Int) : Prop := l.length ≤ 1000 ∧ l.Nodup ∧ (∀ i ∈ l, (Lit.int .i64 i).wf = true) ∧ ∀ i, (Lit.int .i64 i).wf = true → (i ∈ l ↔ so (s.cl i) = true)
theorem one_of_mem {a b : List Int} {p : Int → Prop} (a1 : a.Nodup) (a2 : ∀ i ∈ a, (Lit.int .i64 i).wf = true) (a3 : ∀ i, (Lit.int .i64 i).wf = true → (i ∈ a ↔ p i)) (b1 : b.Nodup) (b2 : ∀ i ∈ b, (Lit.int .i64 i).wf = true) (b3 : ∀ i, (Lit.int .i64 i).wf = true → (i ∈ b ↔ p i)) : sortI a = sortI b :=
  sortI_one a1 b1 fun i => ⟨fun h => (b3 i (a2 i h)).2 ((a3 i (a2 i h)).1 h), fun h => (a3 i (b2 i h)).2 ((b3 i (b2 i h)).1 h)⟩
open Classical in
noncomputable def connsL (so : Int → Bool) (s : St) : List Int := if h : ∃ l, IsConns so s l then sortI h.choose else []
open Classical in
noncomputable def ofL (so : Bool × Bool → Bool) (s : St) : List Int := if h : ∃ l, IsOf so s l then sortI h.choose else []
theorem connsL_eq {so : Int → Bool} {s : St} {l : List Int} (h : IsConns so s l) : connsL so s = sortI l := by
  have hx : ∃ l, IsConns so s l := ⟨l, h⟩
  unfold connsL
  rw [dif_pos hx]
  have hc := hx.choose_spec
  exact one_of_mem hc.2.1 hc.2.2.1 hc.2.2.2 h.2.1 h.2.2.1 h.2.2.2
theorem ofL_eq {so : Bool × Bool → Bool} {s : St} {l : List Int} (h : IsOf so s l) : ofL so s = sortI l := by
  have hx : ∃ l, IsOf so s l := ⟨l, h⟩
  unfold ofL
  rw [dif_pos hx]
  have hc := hx.choose_spec
  exact one_of_mem hc.2.1 hc.2.2.1 hc.2.2.2 h.2.1 h.2.2.1 h.2.2.2
/-- A list L is answered. -/
def ListPost (L : List Int) (w : World) (e : Ending) (w' : World) : Prop := ∃ A c, e = .returned (.slice A L.length c) ∧ L.length ≤ c ∧ L.length ≤ 1000 ∧ IntsAt w' A L ∧ Below w.heap.size w w'
theorem ConnsPost.list {so : Int → Bool} {s : St} {w w' : World} {e : Ending} (h : ConnsPost so s w e w') : ListPost (connsL so s) w e w' := by
  obtain ⟨A, c, l, h1, h2, h3, h4, h5, h6, h7, h8⟩ := h
  rw [connsL_eq ⟨h4, h5, h6, h7⟩]
  exact ⟨A, c, h1, h2, by rw [sortI_len]; exact h4, h3, h8⟩
theorem OfPost.list {so : Bool × Bool → Bool} {s : St} {w w' : World} {e : Ending} (h : OfPost so s w e w') : ListPost (ofL so s) w e w' := by
  obtain ⟨A, c, l, h1, h2, h3, h4, h5, h6, h7, h8⟩ := h
  rw [ofL_eq ⟨h4, h5, h6, h7⟩]
  exact ⟨A, c, h1, h2, by rw [sortI_len]; exact h4, h3, h8⟩
section
variable (base a b n : Nat) (s t : St) (w : World)
theorem two_ConnsA (h : Two base w a b n s t) (hn : n < 1000) : Calls Try.prog 14 #[.pointer (some ⟨a, 0, none⟩)] w (ListPost (connsL soAll s) w) := by
  obtain ⟨bs, _, h1, _⟩ := h.on
  exact (Conns_any bs a n s w h1 hn).mono fun e w' hp => hp.list
theorem two_OpenA (h : Two base w a b n s t) (hn : n < 1000) : Calls Try.prog 15 #[.pointer (some ⟨a, 0, none⟩)] w (ListPost (connsL soOpen s) w) := by
  obtain ⟨bs, _, h1, _⟩ := h.on
  exact (Open_any bs a n s w h1 hn).mono fun e w' hp => hp.list
theorem two_EndedA (h : Two base w a b n s t) (hn : n < 1000) : Calls Try.prog 19 #[.pointer (some ⟨a, 0, none⟩)] w (ListPost (ofL soEnded s) w) := by
  obtain ⟨bs, _, h1, _⟩ := h.on
  exact (Ended_any bs a n s w h1 hn).mono fun e w' hp => hp.list
theorem two_GreetedA (h : Two base w a b n s t) (hn : n < 1000) : Calls Try.prog 20 #[.pointer (some ⟨a, 0, none⟩)] w (ListPost (ofL soGreeted s) w) := by
  obtain ⟨bs, _, h1, _⟩ := h.on
  exact (Greeted_any bs a n s w h1 hn).mono fun e w' hp => hp.list
end
theorem same_list {L : List Int} {w : World} {A B : Option Addr} {c d : Nat} (hl : L.length ≤ 1000) (ha : IntsAt w A L) (hb : IntsAt w B L) :
    Calls Try.prog 13 #[.slice A L.length c, .slice B L.length d] w fun e w' => e = .returned (.bool true) ∧ Below w.heap.size w w' := same_yes w A B c d L (by omega) ha hb
end Go.Proofs.Ytghjhcobmbobcaa.Wt
