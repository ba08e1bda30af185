/- What a frame to a client turns in a watch ((*Watch).front). -/
import Derived.Test.YtghjhcobmbobcaaWa
import Derived.StillTailTactics
import Derived.BigQuiet
namespace Go.Proofs.Ytghjhcobmbobcaa.Wt
open Go.RowKit Go.Proofs.Ytghjhcobmbobcaa.Mp Go.Proofs.Ytghjhcobmbobcaa

section
variable {ops : Array Oper} {rest : List Oper} {o : Oper} {a : Act} {Q : Exit → Act → World → Prop}
theorem look_cli (w : World) (hg : o.guard = none) (m x : Operand) (hop : o.op = Op.lookup 49 m x false) (b n : Nat) (f : Int → Bool × Bool) (i : Int) (g e : Bool) (hm : a.eval m = .map (some b)) (hx : a.eval x = .int .i64 i) (hi : (Lit.int .i64 i).wf = true) (h : MapOf pair Try.prog 3 w b n f)
    (hz : f i = (g, e)) (hK : wpList Try.prog ops Q rest (a.put o.dst (.agg #[.bool g, .bool e])) w) : wpList Try.prog ops Q (o :: rest) a w :=
  wp_look pair w hg m x 49 hop uInt Try.underlying49 (e := 54) (by kernel_rfl) b n f i hm hx hi h (by
    show wpList _ _ _ _ (a.put o.dst (.agg #[.bool (f i).1, .bool (f i).2])) w
    rw [hz]; exact hK)
theorem store_cli (w : World) (hg : o.guard = none) (m x y : Operand) (hop : o.op = Op.mapUpdate 49 m x y) (b n : Nat) (f : Int → Bool × Bool) (i : Int) (g e : Bool) (hm : a.eval m = .map (some b)) (hx : a.eval x = .int .i64 i) (hv : a.eval y = .agg #[.bool g, .bool e]) (hi : (Lit.int .i64 i).wf = true) (hn : n < maxLen) (h : MapOf pair Try.prog 3 w b n f)
    (hK : ∀ w', MapOf pair Try.prog 3 w' b (n + 1) (upd f i (g, e)) → w.grownBy w' (some b) → wpList Try.prog ops Q rest (a.put o.dst undef) w') : wpList Try.prog ops Q (o :: rest) a w :=
  wp_store pair w hg m x y 49 hop uInt Try.underlying49 b n f i (g, e) hm hx hv hi hn (fun h => by cases h) h hK
end

/-- As WAt, its two maps named. -/
def WX (base : Bs) (w : World) (b n : Nat) (s : St) (mb cb : Nat) : Prop := w.heap[b]? = some (.cells #[.int .i64 s.top, .map (some mb), .map (some cb)] 51 (0, 0)) ∧
  MapOf eN Try.prog 3 w mb n s.nx ∧ MapOf pair Try.prog 3 w cb n s.cl ∧ base ≤ b ∧ base ≤ mb ∧ base ≤ cb ∧ b ≠ mb ∧ b ≠ cb ∧ mb ≠ cb ∧ XF base w b mb cb
section
variable {base : Bs} {w w' : World} {b n : Nat} {s : St} {mb cb : Nat}
theorem WX.at (h : WX base w b n s mb cb) : WAt base w b n s := ⟨mb, cb, h⟩
theorem WX.move (h : WX base w b n s mb cb) (hm : ∀ k, base.lo ≤ k → k < w.heap.size → w'.heap[k]? = w.heap[k]?) : WX base w' b n s mb cb := by
  obtain ⟨h1, h2, h3, h4, h5, h6, h7, h8, h9, h10⟩ := h
  exact ⟨(hm b h4 (Array.getElem?_eq_some_iff.1 h1).1).trans h1, h2.move (hm mb h5 h2.lt), h3.move (hm cb h6 h3.lt), h4, h5, h6, h7, h8, h9, h10.move fun k _ _ _ hl hs => hm k hl hs⟩
theorem WX.below (h : WX base w b n s mb cb) (hb : Below w.heap.size w w') : WX base w' b n s mb cb := h.move fun k _ hk => hb.block k hk
theorem WX.blt (h : WX base w b n s mb cb) : b < w.heap.size := (Array.getElem?_eq_some_iff.1 h.1).1
theorem WX.size (h : WX base w b n s mb cb) : base ≤ w.heap.size := h.at.size
theorem WX.c0 (h : WX base w b n s mb cb) : w.cell? ⟨b, 0, none⟩ = some (.int .i64 s.top) := by simp [World.cell?, h.1]
theorem WX.c1 (h : WX base w b n s mb cb) : w.cell? ⟨b, 1, none⟩ = some (.map (some mb)) := by simp [World.cell?, h.1]
theorem WX.c2 (h : WX base w b n s mb cb) : w.cell? ⟨b, 2, none⟩ = some (.map (some cb)) := by simp [World.cell?, h.1]
theorem WX.free (h : WX base w b n s mb cb) (j : Nat) : w.frozen? ⟨b, j, none⟩ = false := by simp [World.frozen?, h.1]
theorem WX.onNext (h : WX base w b n s mb cb) {f : Int → Fin 4} {m : Nat} (hf : MapOf eN Try.prog 3 w' mb m f) (hn : n ≤ m) (hg : w.grownBy w' (some mb)) : WX base w' b m { s with nx := f } mb cb ∧ Below base w w' := by
  have hb := (Below.refl base w).grown hg h.size (fun k hk => by cases hk; exact h.2.2.2.2.1)
  obtain ⟨h1, h2, h3, h4, h5, h6, h7, h8, h9, h10⟩ := h
  exact ⟨⟨(hg.block b (Array.getElem?_eq_some_iff.1 h1).1 (by simpa using h7)).trans h1, hf, (h3.kept hg (by simpa using h9.symm)).mono hn, h4, h5, h6, h7, h8, h9, h10.kept hg (.inr (.inl rfl))⟩, hb⟩
theorem WX.onCli (h : WX base w b n s mb cb) {f : Int → Bool × Bool} {m : Nat} (hf : MapOf pair Try.prog 3 w' cb m f) (hn : n ≤ m) (hg : w.grownBy w' (some cb)) : WX base w' b m { s with cl := f } mb cb ∧ Below base w w' := by
  have hb := (Below.refl base w).grown hg h.size (fun k hk => by cases hk; exact h.2.2.2.2.2.1)
  obtain ⟨h1, h2, h3, h4, h5, h6, h7, h8, h9, h10⟩ := h
  exact ⟨⟨(hg.block b (Array.getElem?_eq_some_iff.1 h1).1 (by simpa using h8)).trans h1, (h2.kept hg (by simpa using h9)).mono hn, hf, h4, h5, h6, h7, h8, h9, h10.kept hg (.inr (.inr rfl))⟩, hb⟩
end

/-- What a frame to a client is answered with, where it turns nothing: z. -/
theorem front_keep (base : Bs) (b n : Nat) (s : St) (id fk z : Int) (g e : Bool) (w : World) (h : WAt base w b n s) (hi : (Lit.int .i64 id).wf = true) (hv : s.cl id = (g, e))
    (hz : (e = true ∧ z = 5) ∨ (e = false ∧ fk ≠ 1 ∧ fk ≠ 6 ∧ fk ≠ 7 ∧ z = 4) ∨ (e = false ∧ fk = 1 ∧ g = true ∧ z = 6) ∨ (e = false ∧ fk = 6 ∧ g = false ∧ z = 8)) :
    Calls Try.prog 22 #[.pointer (some ⟨b, 0, none⟩), .int .i64 id, .int .i64 fk] w (WPost base b n w (s, z)) := by
  obtain ⟨mb, cb, hx⟩ := h
  have hX : WX base w b n s mb cb := hx
  have c2 := hX.c2
  have lt := hX.blt
  have hm := hX.2.2.1
  have HP : Hid (∀ g' e', WPost base b n w (s, z) (.returned (.int .i64 z)) (w.alloc (.cells #[.bool g', .bool e'] 54))) := Lib.hid fun g' e' =>
    ⟨rfl, ((hX.below ((Below.refl _ _).alloc (Nat.le_refl _) _)).at).mono (Nat.le_succ n), (Below.refl _ _).alloc hX.size _⟩
  clear hx hX
  rcases hz with ⟨rfl, rfl⟩ | ⟨rfl, f1, f6, f7, rfl⟩ | ⟨rfl, rfl, rfl, rfl⟩ | ⟨rfl, rfl, rfl, rfl⟩
  · go_enter Try.func22, Try.ntmps22
    go_wp2_with (at_lookup; refine look_cli _ rfl _ _ rfl cb n _ id g true rfl rfl hi hm hv ?_)
    go_ret
    exact HP.out _ _
  · have t1 : (fk == 1) = false := beq_eq_false_iff_ne.2 f1
    have t2 : (fk != 1) = true := bne_iff_ne.2 f1
    have t3 : (fk != 6) = true := bne_iff_ne.2 f6
    have t4 : (fk != 7) = true := bne_iff_ne.2 f7
    go_enter Try.func22, Try.ntmps22
    go_wp2_with (at_lookup; refine look_cli _ rfl _ _ rfl cb n _ id g false rfl rfl hi hm hv ?_)
    go_ret
    exact HP.out _ _
  · go_enter Try.func22, Try.ntmps22
    go_wp2_with (at_lookup; refine look_cli _ rfl _ _ rfl cb n _ id true false rfl rfl hi hm hv ?_)
    go_ret
    exact HP.out _ _
  · go_enter Try.func22, Try.ntmps22
    go_wp2_with (at_lookup; refine look_cli _ rfl _ _ rfl cb n _ id false false rfl rfl hi hm hv ?_)
    go_ret
    exact HP.out _ _
set_option maxRecDepth 100000 in
theorem front_turn (base : Bs) (b n : Nat) (s : St) (id fk : Int) (g g2 : Bool) (w : World) (h : WAt base w b n s) (hn : n < 1000) (hi : (Lit.int .i64 id).wf = true) (hv : s.cl id = (g, false))
    (hz : (fk = 1 ∧ g = false ∧ g2 = true) ∨ (fk = 6 ∧ g = true ∧ g2 = true) ∨ (fk = 7 ∧ g = true ∧ g2 = true) ∨ (fk = 7 ∧ g = false ∧ g2 = false)) :
    Calls Try.prog 22 #[.pointer (some ⟨b, 0, none⟩), .int .i64 id, .int .i64 fk] w (WPost base b n w ({ s with cl := upd s.cl id (g2, false) }, 0)) := by
  obtain ⟨mb, cb, hx⟩ := h
  have hX : WX base w b n s mb cb := hx
  have c2 := hX.c2
  have lt := hX.blt
  have hm := hX.2.2.1
  have hn2 : n < maxLen := by unfold maxLen; omega
  have HF : Hid (∀ g' e' : Bool, ∃ W2 : World, W2.cell? ⟨b, 2, none⟩ = some (.map (some cb)) ∧ W2.cell? ⟨w.heap.size, 0, none⟩ = some (.bool g') ∧ W2.cell? ⟨w.heap.size, 1, none⟩ = some (.bool e') ∧ w.alloc (.cells #[.bool g', .bool e'] 54) = W2 ∧ MapOf pair Try.prog 3 W2 cb n s.cl ∧
      (∀ w', MapOf pair Try.prog 3 w' cb (n + 1) (upd s.cl id (g', e')) → W2.grownBy w' (some cb) → WPost base b n w ({ s with cl := upd s.cl id (g', e') }, 0) (.returned (.int .i64 0)) w')) := Lib.hid fun g' e' => by
    have hb := (Below.refl w.heap.size w).alloc (Nat.le_refl _) (.cells #[.bool g', .bool e'] 54)
    have h2 := hX.below hb
    refine ⟨_, h2.c2, ?_, ?_, rfl, h2.2.2.1, fun w' hf hg => ?_⟩
    · simp only [World.cell?]; rw [heap_alloc_new]; rfl
    · simp only [World.cell?]; rw [heap_alloc_new]; rfl
    · obtain ⟨r1, r2⟩ := h2.onCli hf (Nat.le_succ n) hg
      exact ⟨rfl, r1.at, ((Below.refl base w).alloc hX.size _).trans r2⟩
  clear hx hX
  rcases hz with ⟨rfl, rfl, rfl⟩ | ⟨rfl, rfl, rfl⟩ | ⟨rfl, rfl, rfl⟩ | ⟨rfl, rfl, rfl⟩
  · go_enter Try.func22, Try.ntmps22
    go_wp2_with (at_lookup; refine look_cli _ rfl _ _ rfl cb n _ id false false rfl rfl hi hm hv ?_)
    obtain ⟨W2, k2, kp0, kp1, hW, hm2, hf⟩ := HF.out true false
    have HFF := Lib.hid hf
    have HM2 := Lib.hid hm2
    clear hf hm2
    rw [hW]
    generalize w.heap.size = p at kp0 kp1 ⊢
    clear c2 lt hm hv hW
    go_still_tail 6, (by kernel_rfl)
    change wpList _ _ _ _ _ W2.drew
    refine store_cli W2.drew rfl _ _ _ rfl cb n _ id true false rfl rfl rfl hi hn2 (HM2.out.move rfl) ?_
    intro w1 hm1 hg1
    have HA := Lib.hid (HFF.out w1 hm1 ⟨hg1.os, hg1.tape, hg1.output, hg1.size, hg1.block⟩)
    clear hm1 hg1
    go_wp2
    go_ret
    exact HA.out
  · go_enter Try.func22, Try.ntmps22
    go_wp2_with (at_lookup; refine look_cli _ rfl _ _ rfl cb n _ id true false rfl rfl hi hm hv ?_)
    obtain ⟨W2, k2, kp0, kp1, hW, hm2, hf⟩ := HF.out true false
    have HFF := Lib.hid hf
    have HM2 := Lib.hid hm2
    clear hf hm2
    rw [hW]
    generalize w.heap.size = p at kp0 kp1 ⊢
    clear c2 lt hm hv hW
    go_still_tail 6, (by kernel_rfl)
    change wpList _ _ _ _ _ W2.drew
    refine store_cli W2.drew rfl _ _ _ rfl cb n _ id true false rfl rfl rfl hi hn2 (HM2.out.move rfl) ?_
    intro w1 hm1 hg1
    have HA := Lib.hid (HFF.out w1 hm1 ⟨hg1.os, hg1.tape, hg1.output, hg1.size, hg1.block⟩)
    clear hm1 hg1
    go_wp2
    go_ret
    exact HA.out
  · go_enter Try.func22, Try.ntmps22
    go_wp2_with (at_lookup; refine look_cli _ rfl _ _ rfl cb n _ id true false rfl rfl hi hm hv ?_)
    obtain ⟨W2, k2, kp0, kp1, hW, hm2, hf⟩ := HF.out true false
    have HFF := Lib.hid hf
    have HM2 := Lib.hid hm2
    clear hf hm2
    rw [hW]
    generalize w.heap.size = p at kp0 kp1 ⊢
    clear c2 lt hm hv hW
    go_still_tail 6, (by kernel_rfl)
    change wpList _ _ _ _ _ W2.drew
    refine store_cli W2.drew rfl _ _ _ rfl cb n _ id true false rfl rfl rfl hi hn2 (HM2.out.move rfl) ?_
    intro w1 hm1 hg1
    have HA := Lib.hid (HFF.out w1 hm1 ⟨hg1.os, hg1.tape, hg1.output, hg1.size, hg1.block⟩)
    clear hm1 hg1
    go_wp2
    go_ret
    exact HA.out
  · go_enter Try.func22, Try.ntmps22
    go_wp2_with (at_lookup; refine look_cli _ rfl _ _ rfl cb n _ id false false rfl rfl hi hm hv ?_)
    obtain ⟨W2, k2, kp0, kp1, hW, hm2, hf⟩ := HF.out false false
    have HFF := Lib.hid hf
    have HM2 := Lib.hid hm2
    clear hf hm2
    rw [hW]
    generalize w.heap.size = p at kp0 kp1 ⊢
    clear c2 lt hm hv hW
    go_still_tail 6, (by kernel_rfl)
    change wpList _ _ _ _ _ W2.drew
    refine store_cli W2.drew rfl _ _ _ rfl cb n _ id false false rfl rfl rfl hi hn2 (HM2.out.move rfl) ?_
    intro w1 hm1 hg1
    have HA := Lib.hid (HFF.out w1 hm1 ⟨hg1.os, hg1.tape, hg1.output, hg1.size, hg1.block⟩)
    clear hm1 hg1
    go_wp2
    go_ret
    exact HA.out
theorem front_any (base : Bs) (b n : Nat) (s : St) (id fk : Int) (w : World) (h : WAt base w b n s) (hn : n < 1000) (hi : (Lit.int .i64 id).wf = true) :
    Calls Try.prog 22 #[.pointer (some ⟨b, 0, none⟩), .int .i64 id, .int .i64 fk] w (WPost base b n w (frontV s id fk)) := by
  obtain ⟨g, e, hv⟩ : ∃ g e, s.cl id = (g, e) := ⟨_, _, rfl⟩
  unfold frontV
  rw [hv]
  cases e with
  | true => exact front_keep base b n s id fk 5 g true w h hi hv (.inl ⟨rfl, rfl⟩)
  | false =>
    rw [if_neg (by simp)]
    by_cases f1 : fk = 1
    · rw [if_neg (fun e => e.1 f1)]
      cases g with
      | true => rw [if_pos ⟨f1, rfl⟩]; exact front_keep base b n s id fk 6 true false w h hi hv (.inr (.inr (.inl ⟨rfl, f1, rfl, rfl⟩)))
      | false =>
        rw [if_neg (fun e => by cases e.2), if_neg (fun e => by omega), show (false || decide (fk = 1)) = true by simp [f1]]
        exact front_turn base b n s id fk false true w h hn hi hv (.inl ⟨f1, rfl, rfl⟩)
    · by_cases f6 : fk = 6
      · rw [if_neg (fun e => e.2.1 f6), if_neg (fun e => f1 e.1)]
        cases g with
        | false => rw [if_pos ⟨f6, rfl⟩]; exact front_keep base b n s id fk 8 false false w h hi hv (.inr (.inr (.inr ⟨rfl, f6, rfl, rfl⟩)))
        | true => rw [if_neg (fun e => by cases e.2)]; exact front_turn base b n s id fk true true w h hn hi hv (.inr (.inl ⟨f6, rfl, rfl⟩))
      · by_cases f7 : fk = 7
        · rw [if_neg (fun e => e.2.2 f7), if_neg (fun e => f1 e.1), if_neg (fun e => f6 e.1)]
          cases g with
          | true => exact front_turn base b n s id fk true true w h hn hi hv (.inr (.inr (.inl ⟨f7, rfl, rfl⟩)))
          | false => rw [show (false || decide (fk = 1)) = false by simp [f1]]; exact front_turn base b n s id fk false false w h hn hi hv (.inr (.inr (.inr ⟨f7, rfl, rfl⟩)))
        · rw [if_pos ⟨f1, f6, f7⟩]
          exact front_keep base b n s id fk 4 g false w h hi hv (.inr (.inl ⟨rfl, f1, f6, f7, rfl⟩))
end Go.Proofs.Ytghjhcobmbobcaa.Wt
