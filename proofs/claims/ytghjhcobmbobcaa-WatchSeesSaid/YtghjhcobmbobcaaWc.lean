/- What an output turns in a watch ((*Watch).See). -/
import Derived.Test.YtghjhcobmbobcaaWb
import Derived.Test.YtghjhcobmbobcaaMe
namespace Go.Proofs.Ytghjhcobmbobcaa.Wt
open Go.RowKit Go.Proofs.Ytghjhcobmbobcaa.Mp Go.Proofs.Ytghjhcobmbobcaa

def outArg (o : OutV) : Value := .agg #[.int .i64 o.k, .int .i64 o.id, .int .i64 o.fk, .string o.data, .string o.text]
def outObj (o : OutV) : Obj := .cells #[.int .i64 o.k, .int .i64 o.id, .int .i64 o.fk, .string o.data, .string o.text] 36
theorem WPost.pre {base : Bs} {b n : Nat} {w w1 : World} {r : St × Int} (hb : Below base w w1) {e : Ending} {w' : World} (h : WPost base b n w1 r e w') : WPost base b n w r e w' := ⟨h.1, h.2.1, hb.trans h.2.2⟩
section
variable {ops : Array Oper} {rest : List Oper} {o : Oper} {a : Act} {Q : Exit → Act → World → Prop}
theorem strike_num (w : World) (hg : o.guard = none) (m x : Operand) (hop : o.op = Op.call { callee := Callee.builtin Builtin.delete, args := #[m, x], argTypes := #[48, 3] }) (b n : Nat) (f : Int → Fin 4) (i : Int) (hm : a.eval m = .map (some b)) (hx : a.eval x = .int .i64 i) (hi : (Lit.int .i64 i).wf = true) (h : MapOf eN Try.prog 3 w b n f)
    (hK : ∀ w', MapOf eN Try.prog 3 w' b n (upd f i 0) → w.grownBy w' (some b) → wpList Try.prog ops Q rest (a.put o.dst (.tuple #[])) w') : wpList Try.prog ops Q (o :: rest) a w :=
  wp_strike eN w hg m x 48 hop uInt Try.underlying48 b n f i hm hx hi h hK
end

/-- The worlds after the question whether the output may be. -/
theorem after_right {base : Bs} {b n : Nat} {s : St} {mb cb : Nat} {w : World} (o : OutV) (hX : WX base w b n s mb cb) (w1 : World) (hb : Below (w.alloc (outObj o)).heap.size (w.alloc (outObj o)) w1) :
    WX base w1 b n s mb cb ∧ Below base w w1 ∧ w.heap.size < w1.heap.size ∧ w1.heap[w.heap.size]? = some (outObj o) := by
  have h0 := (Below.refl w.heap.size w).alloc (Nat.le_refl _) (outObj o)
  have h1 : Below w.heap.size w w1 := h0.trans (hb.mono (by rw [World.size_alloc]; omega))
  have hlt : w.heap.size < (w.alloc (outObj o)).heap.size := by rw [World.size_alloc]; omega
  refine ⟨hX.below h1, h1.mono hX.size, ?_, ?_⟩
  · exact Nat.lt_of_lt_of_le hlt hb.size
  · rw [hb.block _ hlt]; exact heap_alloc_new _ _

theorem run_cli {w : World} {b n : Nat} {f : Int → Bool × Bool} {i : Int} {g e : Bool} (h : MapOf pair Try.prog 3 w b n f) (hi : (Lit.int .i64 i).wf = true) (hz : f i = (g, e)) :
    (Instr.lookup 49 (.map (some b)) (.int .i64 i) false).run Try.prog w = .ok (.agg #[.bool g, .bool e]) w := by
  have := h.look (t := 49) (e := 54) uInt Try.underlying49 (by kernel_rfl) hi
  rw [hz] at this
  exact this
theorem run_entry {w : World} {b n : Nat} {f : Int → Fin 4} {i : Int} (h : MapOf eN Try.prog 3 w b n f) (hi : (Lit.int .i64 i).wf = true) (hn : n < maxLen) :
    ∃ v0 s w1, (Instr.mapEntry 48 (.map (some b)) (.int .i64 i)).run Try.prog w = .ok (.tuple #[v0, s]) w1 ∧
      ∃ w', (Instr.entryStore 48 (.map (some b)) s (.int .i64 1)).run Try.prog w1 = .ok () w' ∧ MapOf eN Try.prog 3 w' b (n + 1) (upd f i 1) ∧ w.grownBy w' (some b) := by
  obtain ⟨v0, s, w1, h1, h2⟩ := h.entry (t := 48) (e := 3) uInt Try.underlying48 (fun u => by kernel_rfl) hn hi
  exact ⟨v0, s, w1, h1, h2 1 (fun _ => show (1 : Fin 4) ≠ 0 by decide)⟩
theorem WX.setTop {base : Bs} {w : World} {b n : Nat} {s : St} {mb cb : Nat} (h : WX base w b n s mb cb) (i : Int) : WX base (w.setCell ⟨b, 0, none⟩ (.int .i64 i)) b n { s with top := i } mb cb := by
  have hb := h.blt
  obtain ⟨h1, h2, h3, h4, h5, h6, h7, h8, h9, h10⟩ := h
  refine ⟨?_, h2.move (Below.heap_setCell _ _ _ _ h7.symm), h3.move (Below.heap_setCell _ _ _ _ h8.symm), h4, h5, h6, h7, h8, h9, h10.move fun k hk _ _ _ _ => Below.heap_setCell _ _ _ _ hk⟩
  simp [World.setCell, Array.getElem?_modify, h1]
section
variable (base : Bs) (b n : Nat) (s : St) (o : OutV) (w : World)
/-- What See asks of trace.Right. -/
def RightIs (o : OutV) (r : Bool) : Prop := ∀ W : World, Calls Try.prog 21 #[outArg o] W (fun e w' => e = .returned (.bool r) ∧ Below W.heap.size W w')
theorem see_not (h : WAt base w b n s) (hR : RightIs o false) :
    Calls Try.prog 12 #[.pointer (some ⟨b, 0, none⟩), outArg o] w (WPost base b n w (s, 1)) := by
  obtain ⟨mb, cb, hx⟩ := h
  have hX : WX base w b n s mb cb := hx
  have HW := Lib.hid (fun w1 => after_right o hX w1)
  have HP : Hid (∀ w1, WX base w1 b n s mb cb → Below base w w1 → WPost base b n w (s, 1) (.returned (.int .i64 1)) w1) := Lib.hid fun w1 h1 h2 => ⟨rfl, h1.at.mono (Nat.le_succ n), h2⟩
  have HR := Lib.hid hR
  clear hx hX hR
  unfold outArg at *
  go_enter Try.func12, Try.ntmps12
  go_wp2_with fail
  refine (HR.out _).mono ?_
  rintro e w1 ⟨rfl, hb⟩
  obtain ⟨h1, h2, h3, h4⟩ := HW.out w1 hb
  have HA := Lib.hid (HP.out w1 h1 h2)
  clear h1 h2 h3 h4 hb
  go_wp2_with fail
  go_ret
  exact HA.out
end
section
variable (base : Bs) (b n : Nat) (s : St) (w : World)
set_option maxRecDepth 100000 in
theorem see_0 (id fk : Int) (data text : ByteArray) (h : WAt base w b n s) (hn : n < 1000) (hi : (Lit.int .i64 id).wf = true) (hR : RightIs ⟨0, id, fk, data, text⟩ true)  :
    Calls Try.prog 12 #[.pointer (some ⟨b, 0, none⟩), outArg ⟨0, id, fk, data, text⟩] w (WPost base b n w (frontV s id fk)) := by
  obtain ⟨mb, cb, hx⟩ := h
  have hX : WX base w b n s mb cb := hx
  have HW := Lib.hid (fun w1 => after_right ⟨0, id, fk, data, text⟩ hX w1)
  have HR := Lib.hid hR
  have hlt := hX.blt
  clear hx hX hR
  unfold outArg at *
  go_enter Try.func12, Try.ntmps12
  go_wp2_with fail
  refine (HR.out _).mono ?_
  rintro e w1 ⟨rfl, hb⟩
  obtain ⟨h1, h2, h3, h4⟩ := HW.out w1 hb
  unfold outObj at h4
  have hsz := h3
  generalize w.heap.size = p at hsz h3 h4 hlt ⊢
  have hpb : p ≠ b := by omega
  have c0 := h1.c0
  have c1 := h1.c1
  have c2 := h1.c2
  have p0 : w1.cell? ⟨p, 0, none⟩ = some (.int .i64 0) := by simp [World.cell?, h4]
  have p1 : w1.cell? ⟨p, 1, none⟩ = some (.int .i64 id) := by simp [World.cell?, h4]
  have p2 : w1.cell? ⟨p, 2, none⟩ = some (.int .i64 fk) := by simp [World.cell?, h4]
  have hm := h1.2.1
  have hc := h1.2.2.1
  have hbl := h1.blt
  have H1 := Lib.hid h1
  have H2 := Lib.hid h2
  clear h1 h2 h3 h4 hb
  clear c0 c1 c2 hm hc hlt hpb
  go_wp2_with fail
  refine (front_any base b n s id fk w1 H1.out.at hn hi).mono ?_
  intro e2 w2 hpost
  obtain ⟨rfl, hq⟩ := WPost.pre H2.out hpost
  have HQ := Lib.hid hq
  clear hq hpost
  go_wp2_with fail
  go_ret
  exact ⟨rfl, HQ.out⟩
set_option maxRecDepth 100000 in
theorem see_1 (id fk : Int) (data text : ByteArray) (h : WAt base w b n s) (hn : n < 1000) (hi : (Lit.int .i64 id).wf = true) (hR : RightIs ⟨1, id, fk, data, text⟩ true)  :
    Calls Try.prog 12 #[.pointer (some ⟨b, 0, none⟩), outArg ⟨1, id, fk, data, text⟩] w (WPost base b n w (backV s id fk)) := by
  obtain ⟨mb, cb, hx⟩ := h
  have hX : WX base w b n s mb cb := hx
  have HW := Lib.hid (fun w1 => after_right ⟨1, id, fk, data, text⟩ hX w1)
  have HR := Lib.hid hR
  have hlt := hX.blt
  clear hx hX hR
  unfold outArg at *
  go_enter Try.func12, Try.ntmps12
  go_wp2_with fail
  refine (HR.out _).mono ?_
  rintro e w1 ⟨rfl, hb⟩
  obtain ⟨h1, h2, h3, h4⟩ := HW.out w1 hb
  unfold outObj at h4
  have hsz := h3
  generalize w.heap.size = p at hsz h3 h4 hlt ⊢
  have hpb : p ≠ b := by omega
  have c0 := h1.c0
  have c1 := h1.c1
  have c2 := h1.c2
  have p0 : w1.cell? ⟨p, 0, none⟩ = some (.int .i64 1) := by simp [World.cell?, h4]
  have p1 : w1.cell? ⟨p, 1, none⟩ = some (.int .i64 id) := by simp [World.cell?, h4]
  have p2 : w1.cell? ⟨p, 2, none⟩ = some (.int .i64 fk) := by simp [World.cell?, h4]
  have hm := h1.2.1
  have hc := h1.2.2.1
  have hbl := h1.blt
  have H1 := Lib.hid h1
  have H2 := Lib.hid h2
  clear h1 h2 h3 h4 hb
  clear c0 c1 c2 hm hc hlt hpb
  go_wp2_with fail
  refine (back_any base b n s id fk w1 H1.out.at hn hi).mono ?_
  intro e2 w2 hpost
  obtain ⟨rfl, hq⟩ := WPost.pre H2.out hpost
  have HQ := Lib.hid hq
  clear hq hpost
  go_wp2_with fail
  go_ret
  exact ⟨rfl, HQ.out⟩
set_option maxRecDepth 100000 in
theorem see_dial_not (id fk : Int) (data text : ByteArray) (h : WAt base w b n s) (_ : n < 1000) (_ : (Lit.int .i64 id).wf = true) (hR : RightIs ⟨2, id, fk, data, text⟩ true) (hle : id ≤ s.top) :
    Calls Try.prog 12 #[.pointer (some ⟨b, 0, none⟩), outArg ⟨2, id, fk, data, text⟩] w (WPost base b n w (s, 6)) := by
  obtain ⟨mb, cb, hx⟩ := h
  have hX : WX base w b n s mb cb := hx
  have HW := Lib.hid (fun w1 => after_right ⟨2, id, fk, data, text⟩ hX w1)
  have HR := Lib.hid hR
  have hlt := hX.blt
  clear hx hX hR
  unfold outArg at *
  have t1 : decide (id ≤ s.top) = true := decide_eq_true hle
  go_enter Try.func12, Try.ntmps12
  go_wp2_with fail
  refine (HR.out _).mono ?_
  rintro e w1 ⟨rfl, hb⟩
  obtain ⟨h1, h2, h3, h4⟩ := HW.out w1 hb
  unfold outObj at h4
  have hsz := h3
  generalize w.heap.size = p at hsz h3 h4 hlt ⊢
  have hpb : p ≠ b := by omega
  have c0 := h1.c0
  have c1 := h1.c1
  have c2 := h1.c2
  have p0 : w1.cell? ⟨p, 0, none⟩ = some (.int .i64 2) := by simp [World.cell?, h4]
  have p1 : w1.cell? ⟨p, 1, none⟩ = some (.int .i64 id) := by simp [World.cell?, h4]
  have p2 : w1.cell? ⟨p, 2, none⟩ = some (.int .i64 fk) := by simp [World.cell?, h4]
  have hm := h1.2.1
  have hc := h1.2.2.1
  have hbl := h1.blt
  have H1 := Lib.hid h1
  have H2 := Lib.hid h2
  clear h1 h2 h3 h4 hb
  have D1 : WX base w1.drew b n s mb cb := H1.out.below (Below.refl _ w1).drew
  have D2 : Below base w w1.drew := H2.out.drew
  have d0 : w1.drew.cell? ⟨b, 0, none⟩ = some (.int .i64 s.top) := c0
  have d1 : w1.drew.cell? ⟨b, 1, none⟩ = some (.map (some mb)) := c1
  have d2 : w1.drew.cell? ⟨b, 2, none⟩ = some (.map (some cb)) := c2
  have dp1 : w1.drew.cell? ⟨p, 1, none⟩ = some (.int .i64 id) := p1
  have df := D1.free 0
  have dlt := D1.blt
  have dm := D1.2.1
  have dc := D1.2.2.1
  have E1 := Lib.hid D1
  have E2 := Lib.hid D2
  have em := Lib.hid dm
  have ec := Lib.hid dc
  clear D1 D2 dm dc
  have HA : Hid (WPost base b n w (s, 6) (.returned (.int .i64 6)) w1.drew) := Lib.hid ⟨rfl, E1.out.at.mono (Nat.le_succ n), E2.out⟩
  clear hm hc hlt
  go_wp2_with fail
  go_still_tail 6, (by kernel_rfl)
  change wpList _ _ _ _ _ w1.drew
  generalize w1.drew = w2 at E1 E2 d0 d1 d2 dp1 df dlt em ec HA ⊢
  clear H1 H2 c0 c1 c2 p0 p1 p2
  go_wp2_with fail
  go_ret
  exact HA.out
set_option maxRecDepth 100000 in
theorem see_drop_not (id fk : Int) (data text : ByteArray) (h : WAt base w b n s) (_ : n < 1000) (hi : (Lit.int .i64 id).wf = true) (hR : RightIs ⟨3, id, fk, data, text⟩ true) (hz : s.nx id = 0) :
    Calls Try.prog 12 #[.pointer (some ⟨b, 0, none⟩), outArg ⟨3, id, fk, data, text⟩] w (WPost base b n w (s, 5)) := by
  obtain ⟨mb, cb, hx⟩ := h
  have hX : WX base w b n s mb cb := hx
  have HW := Lib.hid (fun w1 => after_right ⟨3, id, fk, data, text⟩ hX w1)
  have HR := Lib.hid hR
  have hlt := hX.blt
  clear hx hX hR
  unfold outArg at *
  have hv : ((s.nx id).val : Int) = 0 := by rw [hz]; rfl
  go_enter Try.func12, Try.ntmps12
  go_wp2_with fail
  refine (HR.out _).mono ?_
  rintro e w1 ⟨rfl, hb⟩
  obtain ⟨h1, h2, h3, h4⟩ := HW.out w1 hb
  unfold outObj at h4
  have hsz := h3
  generalize w.heap.size = p at hsz h3 h4 hlt ⊢
  have hpb : p ≠ b := by omega
  have c0 := h1.c0
  have c1 := h1.c1
  have c2 := h1.c2
  have p0 : w1.cell? ⟨p, 0, none⟩ = some (.int .i64 3) := by simp [World.cell?, h4]
  have p1 : w1.cell? ⟨p, 1, none⟩ = some (.int .i64 id) := by simp [World.cell?, h4]
  have p2 : w1.cell? ⟨p, 2, none⟩ = some (.int .i64 fk) := by simp [World.cell?, h4]
  have hm := h1.2.1
  have hc := h1.2.2.1
  have hbl := h1.blt
  have H1 := Lib.hid h1
  have H2 := Lib.hid h2
  clear h1 h2 h3 h4 hb
  have D1 : WX base w1.drew b n s mb cb := H1.out.below (Below.refl _ w1).drew
  have D2 : Below base w w1.drew := H2.out.drew
  have d0 : w1.drew.cell? ⟨b, 0, none⟩ = some (.int .i64 s.top) := c0
  have d1 : w1.drew.cell? ⟨b, 1, none⟩ = some (.map (some mb)) := c1
  have d2 : w1.drew.cell? ⟨b, 2, none⟩ = some (.map (some cb)) := c2
  have dp1 : w1.drew.cell? ⟨p, 1, none⟩ = some (.int .i64 id) := p1
  have df := D1.free 0
  have dlt := D1.blt
  have dm := D1.2.1
  have dc := D1.2.2.1
  have E1 := Lib.hid D1
  have E2 := Lib.hid D2
  have em := Lib.hid dm
  have ec := Lib.hid dc
  clear D1 D2 dm dc
  have HA : Hid (WPost base b n w (s, 5) (.returned (.int .i64 5)) w1.drew) := Lib.hid ⟨rfl, E1.out.at.mono (Nat.le_succ n), E2.out⟩
  clear hm hc hlt
  go_wp2_with fail
  go_still_tail 6, (by kernel_rfl)
  change wpList _ _ _ _ _ w1.drew
  generalize w1.drew = w2 at E1 E2 d0 d1 d2 dp1 df dlt em ec HA ⊢
  clear H1 H2 c0 c1 c2 p0 p1 p2
  refine look_num w2 rfl _ _ rfl mb n _ id 0 rfl rfl hi em.out hv ?_
  go_wp2_with fail
  go_ret
  exact HA.out
set_option maxRecDepth 100000 in
theorem see_drop (id fk : Int) (data text : ByteArray) (h : WAt base w b n s) (_ : n < 1000) (hi : (Lit.int .i64 id).wf = true) (hR : RightIs ⟨3, id, fk, data, text⟩ true) (hz : s.nx id ≠ 0) :
    Calls Try.prog 12 #[.pointer (some ⟨b, 0, none⟩), outArg ⟨3, id, fk, data, text⟩] w (WPost base b n w ({ s with nx := upd s.nx id 0 }, 0)) := by
  obtain ⟨mb, cb, hx⟩ := h
  have hX : WX base w b n s mb cb := hx
  have HW := Lib.hid (fun w1 => after_right ⟨3, id, fk, data, text⟩ hX w1)
  have HR := Lib.hid hR
  have hlt := hX.blt
  clear hx hX hR
  unfold outArg at *
  have hv : (((s.nx id).val : Int) == 0) = false := beq_eq_false_iff_ne.2 (fun e => hz (Fin.ext (Int.ofNat.inj e)))
  obtain ⟨v, hvv⟩ : ∃ v, ((s.nx id).val : Int) = v := ⟨_, rfl⟩
  rw [hvv] at hv
  go_enter Try.func12, Try.ntmps12
  go_wp2_with fail
  refine (HR.out _).mono ?_
  rintro e w1 ⟨rfl, hb⟩
  obtain ⟨h1, h2, h3, h4⟩ := HW.out w1 hb
  unfold outObj at h4
  have hsz := h3
  generalize w.heap.size = p at hsz h3 h4 hlt ⊢
  have hpb : p ≠ b := by omega
  have c0 := h1.c0
  have c1 := h1.c1
  have c2 := h1.c2
  have p0 : w1.cell? ⟨p, 0, none⟩ = some (.int .i64 3) := by simp [World.cell?, h4]
  have p1 : w1.cell? ⟨p, 1, none⟩ = some (.int .i64 id) := by simp [World.cell?, h4]
  have p2 : w1.cell? ⟨p, 2, none⟩ = some (.int .i64 fk) := by simp [World.cell?, h4]
  have hm := h1.2.1
  have hc := h1.2.2.1
  have hbl := h1.blt
  have H1 := Lib.hid h1
  have H2 := Lib.hid h2
  clear h1 h2 h3 h4 hb
  have D1 : WX base w1.drew b n s mb cb := H1.out.below (Below.refl _ w1).drew
  have D2 : Below base w w1.drew := H2.out.drew
  have d0 : w1.drew.cell? ⟨b, 0, none⟩ = some (.int .i64 s.top) := c0
  have d1 : w1.drew.cell? ⟨b, 1, none⟩ = some (.map (some mb)) := c1
  have d2 : w1.drew.cell? ⟨b, 2, none⟩ = some (.map (some cb)) := c2
  have dp1 : w1.drew.cell? ⟨p, 1, none⟩ = some (.int .i64 id) := p1
  have df := D1.free 0
  have dlt := D1.blt
  have dm := D1.2.1
  have dc := D1.2.2.1
  have E1 := Lib.hid D1
  have E2 := Lib.hid D2
  have em := Lib.hid dm
  have ec := Lib.hid dc
  clear D1 D2 dm dc
  clear hm hc hlt
  go_wp2_with fail
  go_still_tail 6, (by kernel_rfl)
  change wpList _ _ _ _ _ w1.drew
  generalize w1.drew = w2 at E1 E2 d0 d1 d2 dp1 df dlt em ec ⊢
  clear H1 H2 c0 c1 c2 p0 p1 p2
  refine look_num w2 rfl _ _ rfl mb n _ id v rfl rfl hi em.out hvv ?_
  go_wp2_with fail
  have D1 : WX base w2.drew b n s mb cb := E1.out.below (Below.refl _ w2).drew
  have D2 : Below base w w2.drew := E2.out.drew
  have f0 : w2.drew.cell? ⟨b, 0, none⟩ = some (.int .i64 s.top) := d0
  have f1 : w2.drew.cell? ⟨b, 1, none⟩ = some (.map (some mb)) := d1
  have f2 : w2.drew.cell? ⟨b, 2, none⟩ = some (.map (some cb)) := d2
  have fp1 : w2.drew.cell? ⟨p, 1, none⟩ = some (.int .i64 id) := dp1
  have ff := D1.free 0
  have flt := D1.blt
  have dm := D1.2.1
  have dc := D1.2.2.1
  have F1 := Lib.hid D1
  have F2 := Lib.hid D2
  have fm := Lib.hid dm
  have fc := Lib.hid dc
  clear D1 D2 dm dc
  go_still_tail 6, (by kernel_rfl)
  change wpList _ _ _ _ _ w2.drew
  generalize w2.drew = w3 at F1 F2 f0 f1 f2 fp1 ff flt fm fc ⊢
  clear E1 E2 d0 d1 d2 dp1 df dlt em ec
  refine strike_num w3 rfl _ _ rfl mb n _ id rfl rfl hi fm.out ?_
  intro w4 hm4 hg4
  obtain ⟨r1, r2⟩ := F1.out.onNext hm4 (Nat.le_refl n) hg4
  have HA : Hid (WPost base b n w ({ s with nx := upd s.nx id 0 }, 0) (.returned (.int .i64 0)) w4) := Lib.hid ⟨rfl, r1.at.mono (Nat.le_succ n), F2.out.trans r2⟩
  clear r1 r2 hm4 hg4 F1 F2 f0 f1 f2 fp1 ff flt fm fc
  go_wp2_with fail
  go_ret
  exact HA.out
set_option maxRecDepth 100000 in
theorem see_dial (id fk : Int) (data text : ByteArray) (h : WAt base w b n s) (hn : n < 1000) (hi : (Lit.int .i64 id).wf = true) (hR : RightIs ⟨2, id, fk, data, text⟩ true) (hle : ¬ id ≤ s.top) :
    Calls Try.prog 12 #[.pointer (some ⟨b, 0, none⟩), outArg ⟨2, id, fk, data, text⟩] w (WPost base b n w ({ s with top := id, nx := upd s.nx id 1 }, 0)) := by
  obtain ⟨mb, cb, hx⟩ := h
  have hX : WX base w b n s mb cb := hx
  have HW := Lib.hid (fun w1 => after_right ⟨2, id, fk, data, text⟩ hX w1)
  have HR := Lib.hid hR
  have hlt := hX.blt
  clear hx hX hR
  unfold outArg at *
  have t1 : decide (id ≤ s.top) = false := decide_eq_false hle
  have hn2 : n < maxLen := by unfold maxLen; omega
  go_enter Try.func12, Try.ntmps12
  go_wp2_with fail
  refine (HR.out _).mono ?_
  rintro e w1 ⟨rfl, hb⟩
  obtain ⟨h1, h2, h3, h4⟩ := HW.out w1 hb
  unfold outObj at h4
  have hsz := h3
  generalize w.heap.size = p at hsz h3 h4 hlt ⊢
  have hpb : p ≠ b := by omega
  have c0 := h1.c0
  have c1 := h1.c1
  have c2 := h1.c2
  have p0 : w1.cell? ⟨p, 0, none⟩ = some (.int .i64 2) := by simp [World.cell?, h4]
  have p1 : w1.cell? ⟨p, 1, none⟩ = some (.int .i64 id) := by simp [World.cell?, h4]
  have p2 : w1.cell? ⟨p, 2, none⟩ = some (.int .i64 fk) := by simp [World.cell?, h4]
  have hm := h1.2.1
  have hc := h1.2.2.1
  have hbl := h1.blt
  have H1 := Lib.hid h1
  have H2 := Lib.hid h2
  clear h1 h2 h3 h4 hb
  have D1 : WX base w1.drew b n s mb cb := H1.out.below (Below.refl _ w1).drew
  have D2 : Below base w w1.drew := H2.out.drew
  have d0 : w1.drew.cell? ⟨b, 0, none⟩ = some (.int .i64 s.top) := c0
  have d1 : w1.drew.cell? ⟨b, 1, none⟩ = some (.map (some mb)) := c1
  have d2 : w1.drew.cell? ⟨b, 2, none⟩ = some (.map (some cb)) := c2
  have dp1 : w1.drew.cell? ⟨p, 1, none⟩ = some (.int .i64 id) := p1
  have df := D1.free 0
  have dlt := D1.blt
  have dm := D1.2.1
  have dc := D1.2.2.1
  have E1 := Lib.hid D1
  have E2 := Lib.hid D2
  have em := Lib.hid dm
  have ec := Lib.hid dc
  clear D1 D2 dm dc
  clear hm hc hlt
  go_wp2_with fail
  go_still_tail 6, (by kernel_rfl)
  change wpList _ _ _ _ _ w1.drew
  generalize w1.drew = w2 at E1 E2 d0 d1 d2 dp1 df dlt em ec ⊢
  clear H1 H2 c0 c1 c2 p0 p1 p2
  go_wp2_with fail
  have ff := E1.out.free 0
  have D1 := E1.out.setTop id
  have D2 := E2.out.setCell (p := ⟨b, 0, none⟩) E1.out.2.2.2.1 (.int .i64 id)
  obtain ⟨v0, sv, w4, hr4, w5, hr5, hm5, hg5⟩ := run_entry (w := (w2.setCell ⟨b, 0, none⟩ (.int .i64 id)).drew) (D1.2.1.move rfl) hi hn2
  obtain ⟨q1, q2⟩ := D1.onNext hm5 (Nat.le_succ n) ⟨hg5.os, hg5.tape, hg5.output, hg5.size, hg5.block⟩
  have HA : Hid (WPost base b n w ({ s with top := id, nx := upd s.nx id 1 }, 0) (.returned (.int .i64 0)) w5) := Lib.hid ⟨rfl, q1.at, D2.trans q2⟩
  clear D1 D2 q1 q2 hm5 hg5 E1 E2 em ec
  go_region
  go_wp2_with fail
  go_ret
  exact HA.out
set_option maxRecDepth 100000 in
theorem see_end_not (id fk : Int) (data text : ByteArray) (h : WAt base w b n s) (_ : n < 1000) (hi : (Lit.int .i64 id).wf = true) (hR : RightIs ⟨4, id, fk, data, text⟩ true) (g : Bool) (hv : s.cl id = (g, true)) :
    Calls Try.prog 12 #[.pointer (some ⟨b, 0, none⟩), outArg ⟨4, id, fk, data, text⟩] w (WPost base b n w (s, 5)) := by
  obtain ⟨mb, cb, hx⟩ := h
  have hX : WX base w b n s mb cb := hx
  have HW := Lib.hid (fun w1 => after_right ⟨4, id, fk, data, text⟩ hX w1)
  have HR := Lib.hid hR
  have hlt := hX.blt
  clear hx hX hR
  unfold outArg at *
  go_enter Try.func12, Try.ntmps12
  go_wp2_with fail
  refine (HR.out _).mono ?_
  rintro e w1 ⟨rfl, hb⟩
  obtain ⟨h1, h2, h3, h4⟩ := HW.out w1 hb
  unfold outObj at h4
  have hsz := h3
  generalize w.heap.size = p at hsz h3 h4 hlt ⊢
  have hpb : p ≠ b := by omega
  have c0 := h1.c0
  have c1 := h1.c1
  have c2 := h1.c2
  have p0 : w1.cell? ⟨p, 0, none⟩ = some (.int .i64 4) := by simp [World.cell?, h4]
  have p1 : w1.cell? ⟨p, 1, none⟩ = some (.int .i64 id) := by simp [World.cell?, h4]
  have p2 : w1.cell? ⟨p, 2, none⟩ = some (.int .i64 fk) := by simp [World.cell?, h4]
  have hm := h1.2.1
  have hc := h1.2.2.1
  have hbl := h1.blt
  have H1 := Lib.hid h1
  have H2 := Lib.hid h2
  clear h1 h2 h3 h4 hb
  have HA : Hid (WPost base b n w (s, 5) (.returned (.int .i64 5)) (w1.alloc (.cells #[.bool g, .bool true] 54)).drew) := Lib.hid
    ⟨rfl, ((H1.out.below ((Below.refl _ _).alloc (Nat.le_refl _) _).drew).at).mono (Nat.le_succ n), H2.out.trans ((Below.refl _ _).alloc H1.out.size _).drew⟩
  have L1 := run_cli (w := w1.drew) (hc.move rfl) hi hv
  have L2 := run_cli (w := (w1.alloc (.cells #[.bool false, .bool false] 54)).drew) (((H1.out.below ((Below.refl _ _).alloc (Nat.le_refl _) (.cells #[.bool false, .bool false] 54)))).2.2.1.move rfl) hi hv
  clear hm hc H1 H2
  go_wp2_with fail
  go_region
  all_goals
    go_wp2_with fail
    go_ret
    exact HA.out
set_option maxRecDepth 100000 in
theorem see_end (id fk : Int) (data text : ByteArray) (h : WAt base w b n s) (hn : n < 1000) (hi : (Lit.int .i64 id).wf = true) (hR : RightIs ⟨4, id, fk, data, text⟩ true) (g : Bool) (hv : s.cl id = (g, false)) :
    Calls Try.prog 12 #[.pointer (some ⟨b, 0, none⟩), outArg ⟨4, id, fk, data, text⟩] w (WPost base b n w ({ s with cl := upd s.cl id (g, true) }, 0)) := by
  obtain ⟨mb, cb, hx⟩ := h
  have hX : WX base w b n s mb cb := hx
  have HW := Lib.hid (fun w1 => after_right ⟨4, id, fk, data, text⟩ hX w1)
  have HR := Lib.hid hR
  have hlt := hX.blt
  clear hx hX hR
  unfold outArg at *
  have hn2 : n < maxLen := by unfold maxLen; omega
  go_enter Try.func12, Try.ntmps12
  go_wp2_with fail
  refine (HR.out _).mono ?_
  rintro e w1 ⟨rfl, hb⟩
  obtain ⟨h1, h2, h3, h4⟩ := HW.out w1 hb
  unfold outObj at h4
  have hsz := h3
  generalize w.heap.size = p at hsz h3 h4 hlt ⊢
  have hpb : p ≠ b := by omega
  have c0 := h1.c0
  have c1 := h1.c1
  have c2 := h1.c2
  have p0 : w1.cell? ⟨p, 0, none⟩ = some (.int .i64 4) := by simp [World.cell?, h4]
  have p1 : w1.cell? ⟨p, 1, none⟩ = some (.int .i64 id) := by simp [World.cell?, h4]
  have p2 : w1.cell? ⟨p, 2, none⟩ = some (.int .i64 fk) := by simp [World.cell?, h4]
  have hm := h1.2.1
  have hc := h1.2.2.1
  have hbl := h1.blt
  have H1 := Lib.hid h1
  have H2 := Lib.hid h2
  clear h1 h2 h3 h4 hb
  have HF : Hid (∃ W2 : World, W2.cell? ⟨b, 2, none⟩ = some (.map (some cb)) ∧ W2.cell? ⟨p, 1, none⟩ = some (.int .i64 id) ∧ W2.cell? ⟨w1.heap.size, 0, none⟩ = some (.bool g) ∧ W2.cell? ⟨w1.heap.size, 1, none⟩ = some (.bool true) ∧
      (w1.alloc (.cells #[.bool g, .bool true] 54)).drew = W2 ∧ MapOf pair Try.prog 3 W2 cb n s.cl ∧
      (∀ w', MapOf pair Try.prog 3 w' cb (n + 1) (upd s.cl id (g, true)) → W2.grownBy w' (some cb) → WPost base b n w ({ s with cl := upd s.cl id (g, true) }, 0) (.returned (.int .i64 0)) w')) := Lib.hid (by
    have hb := ((Below.refl w1.heap.size w1).alloc (Nat.le_refl _) (.cells #[.bool g, .bool true] 54)).drew
    have h2 := H1.out.below hb
    refine ⟨_, h2.c2, (hb.cell (p := ⟨p, 1, none⟩) hsz).trans p1, ?_, ?_, rfl, h2.2.2.1, fun w' hf hg => ?_⟩
    · show (w1.alloc _).cell? _ = _
      simp only [World.cell?]; rw [heap_alloc_new]; rfl
    · show (w1.alloc _).cell? _ = _
      simp only [World.cell?]; rw [heap_alloc_new]; rfl
    · obtain ⟨r1, r2⟩ := h2.onCli hf (Nat.le_succ n) hg
      exact ⟨rfl, r1.at, (H2.out.trans ((Below.refl base w1).alloc H1.out.size _).drew).trans r2⟩)
  have L1 := run_cli (w := w1.drew) (hc.move rfl) hi hv
  have L2 := run_cli (w := (w1.alloc (.cells #[.bool false, .bool false] 54)).drew) (((H1.out.below ((Below.refl _ _).alloc (Nat.le_refl _) (.cells #[.bool false, .bool false] 54)))).2.2.1.move rfl) hi hv
  clear hm hc H1 H2
  go_wp2_with fail
  go_region
  all_goals
    go_wp2_with fail
    clear L1 L2
    obtain ⟨W2, k2, kp1, kq0, kq1, hW, hm2, hf⟩ := HF.out
    have HFF := Lib.hid hf
    have HM2 := Lib.hid hm2
    clear hf hm2 HF
    rw [hW]
    generalize w1.heap.size = q at kq0 kq1 ⊢
    clear hW c0 c1 c2 p0 p1 p2 hlt hsz hbl
    go_still_tail 7, (by kernel_rfl)
    change wpList _ _ _ _ _ W2.drew
    refine store_cli W2.drew rfl _ _ _ rfl cb n _ id g true rfl rfl rfl hi hn2 (HM2.out.move rfl) ?_
    intro w5 hm5 hg5
    have HA := Lib.hid (HFF.out w5 hm5 ⟨hg5.os, hg5.tape, hg5.output, hg5.size, hg5.block⟩)
    clear hm5 hg5
    go_wp2_with fail
    go_ret
    exact HA.out
set_option maxRecDepth 100000 in
theorem see_none (id fk k : Int) (data text : ByteArray) (h : WAt base w b n s) (_ : n < 1000) (_ : (Lit.int .i64 id).wf = true) (hR : RightIs ⟨k, id, fk, data, text⟩ true) (hk : k ≠ 0 ∧ k ≠ 1 ∧ k ≠ 2 ∧ k ≠ 3 ∧ k ≠ 4) :
    Calls Try.prog 12 #[.pointer (some ⟨b, 0, none⟩), outArg ⟨k, id, fk, data, text⟩] w (WPost base b n w (s, 0)) := by
  obtain ⟨mb, cb, hx⟩ := h
  have hX : WX base w b n s mb cb := hx
  have HW := Lib.hid (fun w1 => after_right ⟨k, id, fk, data, text⟩ hX w1)
  have HR := Lib.hid hR
  have hlt := hX.blt
  clear hx hX hR
  unfold outArg at *
  have t0 : (k == 0) = false := beq_eq_false_iff_ne.2 hk.1
  have t1 : (k == 1) = false := beq_eq_false_iff_ne.2 hk.2.1
  have t2 : (k == 2) = false := beq_eq_false_iff_ne.2 hk.2.2.1
  have t3 : (k == 3) = false := beq_eq_false_iff_ne.2 hk.2.2.2.1
  have t4 : (k == 4) = false := beq_eq_false_iff_ne.2 hk.2.2.2.2
  go_enter Try.func12, Try.ntmps12
  go_wp2_with fail
  refine (HR.out _).mono ?_
  rintro e w1 ⟨rfl, hb⟩
  obtain ⟨h1, h2, h3, h4⟩ := HW.out w1 hb
  unfold outObj at h4
  have hsz := h3
  generalize w.heap.size = p at hsz h3 h4 hlt ⊢
  have hpb : p ≠ b := by omega
  have c0 := h1.c0
  have c1 := h1.c1
  have c2 := h1.c2
  have p0 : w1.cell? ⟨p, 0, none⟩ = some (.int .i64 k) := by simp [World.cell?, h4]
  have p1 : w1.cell? ⟨p, 1, none⟩ = some (.int .i64 id) := by simp [World.cell?, h4]
  have p2 : w1.cell? ⟨p, 2, none⟩ = some (.int .i64 fk) := by simp [World.cell?, h4]
  have hm := h1.2.1
  have hc := h1.2.2.1
  have hbl := h1.blt
  have H1 := Lib.hid h1
  have H2 := Lib.hid h2
  clear h1 h2 h3 h4 hb
  have HA : Hid (WPost base b n w (s, 0) (.returned (.int .i64 0)) w1) := Lib.hid ⟨rfl, H1.out.at.mono (Nat.le_succ n), H2.out⟩
  clear hm hc hlt
  go_wp2_with fail
  go_ret
  exact HA.out
theorem see_any (o : OutV) (r : Bool) (h : WAt base w b n s) (hn : n < 1000) (hi : (Lit.int .i64 o.id).wf = true) (hR : RightIs o r) :
    Calls Try.prog 12 #[.pointer (some ⟨b, 0, none⟩), outArg o] w (WPost base b n w (seeV r s o)) := by
  cases r with
  | false => exact see_not base b n s o w h hR
  | true =>
    obtain ⟨k, id, fk, data, text⟩ := o
    show Calls _ _ _ _ (WPost base b n w (if true = false then (s, 1) else if k = 0 then frontV s id fk else if k = 1 then backV s id fk
      else if k = 2 then (if id ≤ s.top then (s, 6) else ({ s with top := id, nx := upd s.nx id 1 }, 0))
      else if k = 3 then (if s.nx id = 0 then (s, 5) else ({ s with nx := upd s.nx id 0 }, 0))
      else if k = 4 then (if (s.cl id).2 then (s, 5) else ({ s with cl := upd s.cl id ((s.cl id).1, true) }, 0)) else (s, 0)))
    rw [if_neg (by simp)]
    by_cases k0 : k = 0
    · rw [if_pos k0]; subst k0; exact see_0 base b n s w id fk data text h hn hi hR
    · rw [if_neg k0]
      by_cases k1 : k = 1
      · rw [if_pos k1]; subst k1; exact see_1 base b n s w id fk data text h hn hi hR
      · rw [if_neg k1]
        by_cases k2 : k = 2
        · rw [if_pos k2]; subst k2
          by_cases hle : id ≤ s.top
          · rw [if_pos hle]; exact see_dial_not base b n s w id fk data text h hn hi hR hle
          · rw [if_neg hle]; exact see_dial base b n s w id fk data text h hn hi hR hle
        · rw [if_neg k2]
          by_cases k3 : k = 3
          · rw [if_pos k3]; subst k3
            by_cases hz : s.nx id = 0
            · rw [if_pos hz]; exact see_drop_not base b n s w id fk data text h hn hi hR hz
            · rw [if_neg hz]; exact see_drop base b n s w id fk data text h hn hi hR hz
          · rw [if_neg k3]
            by_cases k4 : k = 4
            · rw [if_pos k4]; subst k4
              obtain ⟨g, e, hv⟩ : ∃ g e, s.cl id = (g, e) := ⟨_, _, rfl⟩
              rw [hv]
              cases e with
              | true => exact see_end_not base b n s w id fk data text h hn hi hR g hv
              | false => exact see_end base b n s w id fk data text h hn hi hR g hv
            · rw [if_neg k4]; exact see_none base b n s w id fk k data text h hn hi hR ⟨k0, k1, k2, k3, k4⟩
end
end Go.Proofs.Ytghjhcobmbobcaa.Wt
