/- Contracts of hostlerref15's Take, Next, Go. -/
import Derived.Test.YtdmhlnjlbcapoaaFrH
import Derived.Deep.Upon
namespace Go.Proofs.Ytdmhlnjlbcapoaa
open Go.RowKit

/-- the slice of held frames that the document's answer gives back -/
def RefOut (w : World) (v : Value) (hs' : List (Int × ByteArray)) (v' : Value) (w' : World) : Prop :=
  Sl w' 29 2 v' hs'.length (encF hs') ∧ B w w' ∧ (v'.ownBlock = v.ownBlock ∨ ∀ g, v'.ownBlock = some g → w.heap.size ≤ g)
theorem wpList_clone_sl {P : Program} {w : World} {ops : Array Oper} {rest : List Oper} {o : Oper} {a : Act} {Q : Exit → Act → World → Prop} (hgd : o.guard = none) (s x : Operand) (t : TypeId)
    (ho : o.op = .call { callee := .builtin .append, args := #[s, x], argTypes := #[t, t] })
    (e : TypeId) (i : TypeInfo) (z : Value) (size bytes : Nat) (ht : P.underlying t = some (.slice e)) (hi : P.info? e = some i) (hz : i.zero = some z)
    (hsize : i.size = size) (hby : i.bytes = bytes) (hzs : z.cells.size = size) (hsz : 0 < size) (hs : a.eval s = .slice none 0 0)
    (A : Option Addr) (m c : Nat) (xs : List Value) (hx : a.eval x = .slice A m c) (hsl : Sl w e size (.slice A m c) m xs) (h1 : ∀ u ∈ xs, u.oneCell' = true)
    (h63 : m ≤ maxLen) (hbytes : m * bytes ≤ 140737488355328)
    (h : ∀ A' c' w', Sl w' e size (.slice A' m c') m xs → B w w' → (∀ g, (Value.slice A' m c').ownBlock = some g → w.heap.size ≤ g) → wpList P ops Q rest (a.put o.dst (.slice A' m c')) w') : wpList P ops Q (o :: rest) a w := by
  rcases Nat.eq_zero_or_pos m with rfl | hm
  · have hx0 : xs = [] := List.eq_nil_of_length_eq_zero (by simpa using hsl.1)
    subst hx0
    refine wpList_plain hgd fun _ hK => ?_
    have hsrc : Src P i.size t (.slice A 0 c) 0 [] w := by
      rcases hsl.2 with ⟨hv, _⟩ | ⟨g, o', cap, cur, hv, _⟩
      · injection hv with h1 h2 h3
        subst h1 h3
        exact Src.ofNil w ht 0
      · injection hv with h1 h2 h3
        subst h1 h3
        exact Src.ofSlice w ht _ 0 _ [] (by simp) (by simp) (by simp)
    have hr := run_append_nothing w t t o.type e i ht hi none 0 0 (Nat.le_refl _) _ hsrc
    unfold Oper.wp execOp
    simp only [ho, resolve, invoke, builtin, Sem.run_bind, Sem.run_pure, Result.andThen_ok, List.map_toArray, List.map_cons, List.map_nil, hs, hx, hr]
    exact hK _ _ (h none 0 w (Sl.nil _ _ _) (B_refl w) (fun g hg => by simp [Value.ownBlock] at hg))
  · obtain ⟨g, o', rfl, hg, hc⟩ := hsl.cells hm
    refine wpList_append_sl w hgd s x t ho e i z size bytes ht hi hz hsize hby hzs hsz (.slice none 0 0) 0 [] hs (Sl.nil _ _ _) ⟨g, o', none⟩ m c xs hx hsl.1 (fun j u hu => by rw [addr_add]; exact hc j u hu) h1 (by omega) (by simpa using hbytes) fun A' c' w' h2 h3 h4 => ?_
    simp only [Nat.zero_add, List.nil_append] at h2 h3 h4 ⊢
    refine h A' c' w' h2 (h3.to_B fun i _ hi => by simp [Value.ownBlock] at hi) fun g hg => ?_
    rcases h4 with h4 | ⟨k, h4, hk⟩
    · rw [h4] at hg; simp [Value.ownBlock] at hg
    · rw [h4] at hg; injection hg with hg; omega
theorem encF_one (hs : List (Int × ByteArray)) : ∀ u ∈ encF hs, u.oneCell' = true := by
  intro u hu
  simp only [encF, List.mem_flatMap] at hu
  obtain ⟨x, _, hx⟩ := hu
  simp at hx
  rcases hx with rfl | rfl <;> rfl
set_option maxHeartbeats 4000000 in
theorem reftake_hold (st : Int) (hs : List (Int × ByteArray)) (A : Option Addr) (c : Nat) (k : Int) (d : ByteArray) (w : World) (hv : Sl w 29 2 (.slice A hs.length c) hs.length (encF hs))
    (to : Int) (ho : ∀ w : World, Calls Try.prog 18 #[.int .i64 st, .int .i64 k] w fun e w' => e = .returned (.tuple #[.int .i64 to, .int .i64 3]) ∧ w' = w) (t6 : (to == 6) = false) (hl : hs.length < 4) :
    Calls Try.prog 23 #[.agg #[.int .i64 st, .slice A hs.length c], .agg #[.int .i64 k, .string d]] w fun e w' => ∃ v', e = .returned (.tuple #[.agg #[.int .i64 to, v'], .int .i64 3]) ∧ RefOut w (.slice A hs.length c) (hs ++ [(k, d)]) v' w' := by
  have HO := Lib.hid ho
  have HV := Lib.hid hv
  clear ho hv
  obtain ⟨i0, hi, hz0, hz1, hz2⟩ := info_parts frame_info
  go_enter Try.func23, Try.ntmps23
  go_wp2_with (first | (go_at_call 18; refine (HO.out _).mono ?_; rintro e w1 ⟨rfl, rfl⟩) | (refine wpList_clone_sl rfl (.tmp 32) (.tmp 34) 40 rfl 29 i0 _ 2 24 Try.underlying40 hi hz0 hz1 hz2 rfl (by decide) rfl A hs.length c (encF hs) rfl ?hs (encF_one hs) ?hm ?hb ?_; (case hs => repeat (first | exact HV.out | refine Sl.alloc ?_ _ | refine Sl.drew ?_)); (case hm => unfold maxLen; omega); (case hb => omega); intro A2 c2 w2 hs2 hb2 hn2; have p0 : Blk w2 w.heap.size 42 #[.int .i64 to, .slice A hs.length c] := Blk.b (by exact ((Blk.new _ _ _).alloc _).alloc _) hb2; have p1 : Blk w2 (w.heap.size + 1) 29 #[.int .i64 k, .string d] := Blk.b (by exact Blk.alloc (heap_at_new _ (by simp)) _) hb2; have p2 : Blk w2 (w.heap.size + 1 + 1) 42 #[.int .i64 0, .slice none 0 0] := Blk.b (by exact heap_at_new _ (by simp)) hb2; have HP2 := Lib.hid p2; clear p2; have f0 := p0.cell 0; have f1 := p0.cell 1; have f2 := p0.frozen 1; have f5 := p0.frozen 0; have f6 := p0.lt; have f3 := p1.cell 0; have f4 := p1.cell 1; simp at f0 f1 f3 f4; have HP0 := Lib.hid p0; clear p0 p1; have HS2 := Lib.hid hs2; have HB2 := Lib.hid hb2; have HN2 := Lib.hid hn2; clear hs2 hb2 hn2) | (refine wpList_append_sl _ rfl (.tmp 36) (.tmp 38) 40 rfl 29 i0 _ 2 24 Try.underlying40 hi hz0 hz1 hz2 rfl (by decide) (.slice A2 hs.length c2) hs.length (encF hs) rfl ?hs ⟨_, 0, none⟩ 1 1 [.int .i64 k, .string d] rfl rfl ?hn ?h1 ?hm ?hb ?_; (case hs => repeat (first | exact HS2.out | refine Sl.alloc ?_ _ | refine Sl.drew ?_)); (case hn => exact news2 (by simp) (by simp)); (case h1 => simp [Value.oneCell']); (case hm => unfold maxLen; omega); (case hb => omega); intro A3 c3 w3 hs3 ho3 hl3; have p3 : Blk w3 w.heap.size 42 #[.int .i64 to, .slice A hs.length c] := Blk.only (HP0.out.alloc _) ho3 (fun hg => by have := HN2.out _ hg; simp at this; omega); have p4 : Blk w3 (w.heap.size + 1 + 1) 42 #[.int .i64 0, .slice none 0 0] := Blk.only (HP2.out.alloc _) ho3 (fun hg => by have := HN2.out _ hg; simp at this; omega); have j0 := p4.cell 0; have j1 := p4.cell 1; have j2 := p4.frozen 1; have j3 := p4.frozen 0; have j4 := p4.lt; simp at j0 j1; clear p4; have g0 := p3.cell 0; have g1 := p3.cell 1; have g2 := p3.frozen 1; have g3 := p3.frozen 0; have g4 := p3.lt; simp at g0 g1; clear p3; have HS3 := Lib.hid hs3; have HO3 := Lib.hid ho3; have HL3 := Lib.hid hl3; clear hs3 ho3 hl3))
  refine bodyPost_ret (v := .tuple #[.agg #[.int .i64 to, .slice A3 (hs.length + 1) c3], .int .i64 3]) (by simp [results, Try.results23, go_sem, j0, j1]; try rfl) rfl ⟨_, rfl, ?_⟩
  have b2 : B w w2 := B_trans (B_alloc (B_alloc (B_alloc (B_refl _) _) _) _) HB2.out
  have n2 : ∀ g, (Value.slice A2 hs.length c2).ownBlock = some g → w.heap.size + 3 ≤ g := fun g hg => by have := HN2.out g hg; simp at this; omega
  have n3 := own_later HL3.out n2 (by have := HB2.out.size; simp at this ⊢; omega)
  refine ⟨?_, B_setCell (B_setCell (B_setCell (B_only (B_alloc b2 _) HO3.out fun g hg => by have := n2 g hg; omega) (p := ⟨w.heap.size, 1, none⟩) (Nat.le_refl _) _) (p := ⟨w.heap.size + 1 + 1, 0, none⟩) (by show _ ≤ w.heap.size + 1 + 1; omega) _) (p := ⟨w.heap.size + 1 + 1, 1, none⟩) (by show _ ≤ w.heap.size + 1 + 1; omega) _, .inr fun g hg => by have := n3 g hg; omega⟩
  rw [encF_append, List.length_append]
  exact ((HS3.out.far (p := ⟨w.heap.size, 1, none⟩) (fun h => by have : w.heap.size + 3 ≤ w.heap.size := n3 _ h; omega) _).far (p := ⟨w.heap.size + 1 + 1, 0, none⟩) (fun h => by have : w.heap.size + 3 ≤ w.heap.size + 1 + 1 := n3 _ h; omega) _).far (p := ⟨w.heap.size + 1 + 1, 1, none⟩) (fun h => by have : w.heap.size + 3 ≤ w.heap.size + 1 + 1 := n3 _ h; omega) _
set_option maxHeartbeats 4000000 in
theorem reftake_full4 (st : Int) (hs : List (Int × ByteArray)) (A : Option Addr) (c : Nat) (k : Int) (d : ByteArray) (w : World) (hv : Sl w 29 2 (.slice A hs.length c) hs.length (encF hs))
    (to : Int) (ho : ∀ w : World, Calls Try.prog 18 #[.int .i64 st, .int .i64 k] w fun e w' => e = .returned (.tuple #[.int .i64 to, .int .i64 3]) ∧ w' = w) (t4 : st = 4) (hl : ¬ (hs.length : Int) < 4) :
    Calls Try.prog 23 #[.agg #[.int .i64 st, .slice A hs.length c], .agg #[.int .i64 k, .string d]] w fun e w' => ∃ v', e = .returned (.tuple #[.agg #[.int .i64 6, v'], .int .i64 8]) ∧ RefOut w (.slice A hs.length c) [] v' w' := by
  subst t4
  have HO := Lib.hid ho
  have HV := Lib.hid hv
  clear ho hv
  go_enter Try.func23, Try.ntmps23
  go_wp2_with (go_at_call 18; refine (HO.out _).mono ?_; rintro e w1 ⟨rfl, rfl⟩)
  refine bodyPost_ret (v := .tuple #[.agg #[.int .i64 6, .slice none 0 0], .int .i64 8]) (by simp [results, Try.results23, go_sem]; try rfl) rfl ⟨_, rfl, ?_⟩
  refine ⟨Sl.nil _ _ _, by (repeat (first | assumption | exact B_refl _ | refine B_drewN ?_ _ | refine B_drew ?_ | refine B_alloc ?_ _ | refine B_setCell ?_ (by first | (simp; done) | (simp; omega)) _ | refine B_trans ?_ (by assumption))), .inr fun g hg => by simp [Value.ownBlock] at hg⟩
set_option maxHeartbeats 4000000 in
theorem reftake_full2 (st : Int) (hs : List (Int × ByteArray)) (A : Option Addr) (c : Nat) (k : Int) (d : ByteArray) (w : World) (hv : Sl w 29 2 (.slice A hs.length c) hs.length (encF hs))
    (to : Int) (ho : ∀ w : World, Calls Try.prog 18 #[.int .i64 st, .int .i64 k] w fun e w' => e = .returned (.tuple #[.int .i64 to, .int .i64 3]) ∧ w' = w) (t4 : (st == 4) = false) (hl : ¬ (hs.length : Int) < 4) :
    Calls Try.prog 23 #[.agg #[.int .i64 st, .slice A hs.length c], .agg #[.int .i64 k, .string d]] w fun e w' => ∃ v', e = .returned (.tuple #[.agg #[.int .i64 6, v'], .int .i64 7]) ∧ RefOut w (.slice A hs.length c) [] v' w' := by
  have HO := Lib.hid ho
  have HV := Lib.hid hv
  clear ho hv
  go_enter Try.func23, Try.ntmps23
  go_wp2_with (go_at_call 18; refine (HO.out _).mono ?_; rintro e w1 ⟨rfl, rfl⟩)
  refine bodyPost_ret (v := .tuple #[.agg #[.int .i64 6, .slice none 0 0], .int .i64 7]) (by simp [results, Try.results23, go_sem]; try rfl) rfl ⟨_, rfl, ?_⟩
  refine ⟨Sl.nil _ _ _, by (repeat (first | assumption | exact B_refl _ | refine B_drewN ?_ _ | refine B_drew ?_ | refine B_alloc ?_ _ | refine B_setCell ?_ (by first | (simp; done) | (simp; omega)) _ | refine B_trans ?_ (by assumption))), .inr fun g hg => by simp [Value.ownBlock] at hg⟩
set_option maxHeartbeats 4000000 in
theorem reftake_out (st : Int) (hs : List (Int × ByteArray)) (A : Option Addr) (c : Nat) (k : Int) (d : ByteArray) (w : World) (hv : Sl w 29 2 (.slice A hs.length c) hs.length (encF hs))
    (what : Int) (ho : ∀ w : World, Calls Try.prog 18 #[.int .i64 st, .int .i64 k] w fun e w' => e = .returned (.tuple #[.int .i64 6, .int .i64 what]) ∧ w' = w) (t3 : (what == 3) = false) :
    Calls Try.prog 23 #[.agg #[.int .i64 st, .slice A hs.length c], .agg #[.int .i64 k, .string d]] w fun e w' => ∃ v', e = .returned (.tuple #[.agg #[.int .i64 6, v'], .int .i64 what]) ∧ RefOut w (.slice A hs.length c) [] v' w' := by
  have HO := Lib.hid ho
  have HV := Lib.hid hv
  clear ho hv
  go_enter Try.func23, Try.ntmps23
  go_wp2_with (go_at_call 18; refine (HO.out _).mono ?_; rintro e w1 ⟨rfl, rfl⟩)
  refine bodyPost_ret (v := .tuple #[.agg #[.int .i64 6, .slice none 0 0], .int .i64 what]) (by simp [results, Try.results23, go_sem]; try rfl) rfl ⟨_, rfl, ?_⟩
  refine ⟨Sl.nil _ _ _, by (repeat (first | assumption | exact B_refl _ | refine B_drewN ?_ _ | refine B_drew ?_ | refine B_alloc ?_ _ | refine B_setCell ?_ (by first | (simp; done) | (simp; omega)) _ | refine B_trans ?_ (by assumption))), .inr fun g hg => by simp [Value.ownBlock] at hg⟩
set_option maxHeartbeats 4000000 in
theorem reftake_on (st : Int) (hs : List (Int × ByteArray)) (A : Option Addr) (c : Nat) (k : Int) (d : ByteArray) (w : World) (hv : Sl w 29 2 (.slice A hs.length c) hs.length (encF hs))
    (what to : Int) (ho : ∀ w : World, Calls Try.prog 18 #[.int .i64 st, .int .i64 k] w fun e w' => e = .returned (.tuple #[.int .i64 to, .int .i64 what]) ∧ w' = w) (t3 : (what == 3) = false) (t6 : (to == 6) = false) :
    Calls Try.prog 23 #[.agg #[.int .i64 st, .slice A hs.length c], .agg #[.int .i64 k, .string d]] w fun e w' => ∃ v', e = .returned (.tuple #[.agg #[.int .i64 to, v'], .int .i64 what]) ∧ RefOut w (.slice A hs.length c) hs v' w' := by
  have HO := Lib.hid ho
  have HV := Lib.hid hv
  clear ho hv
  go_enter Try.func23, Try.ntmps23
  go_wp2_with (go_at_call 18; refine (HO.out _).mono ?_; rintro e w1 ⟨rfl, rfl⟩)
  refine bodyPost_ret (v := .tuple #[.agg #[.int .i64 to, .slice A hs.length c], .int .i64 what]) (by simp [results, Try.results23, go_sem]; try rfl) rfl ⟨_, rfl, ?_⟩
  refine ⟨HV.out.b (by (repeat (first | assumption | exact B_refl _ | refine B_drewN ?_ _ | refine B_drew ?_ | refine B_alloc ?_ _ | refine B_setCell ?_ (by first | (simp; done) | (simp; omega)) _ | refine B_trans ?_ (by assumption)))), by (repeat (first | assumption | exact B_refl _ | refine B_drewN ?_ _ | refine B_drew ?_ | refine B_alloc ?_ _ | refine B_setCell ?_ (by first | (simp; done) | (simp; omega)) _ | refine B_trans ?_ (by assumption))), .inl rfl⟩
theorem onDo3st (s k : Int) (h : onDo s k = 3) : (s = 2 ∧ onTo s k = 2) ∨ (s = 4 ∧ onTo s k = 4) := by
  obtain ⟨c0, c1⟩ := colOf_range k
  unfold onDo at h
  unfold onTo
  generalize colOf k = c at *
  by_cases hs : s < 0 ∨ 7 ≤ s
  · rw [if_pos hs] at h; cases h
  · rw [if_neg hs] at h ⊢
    rcases (show s = 0 ∨ s = 1 ∨ s = 2 ∨ s = 3 ∨ s = 4 ∨ s = 5 ∨ s = 6 by omega) with rfl | rfl | rfl | rfl | rfl | rfl | rfl <;>
      rcases (show c = 0 ∨ c = 1 ∨ c = 2 ∨ c = 3 ∨ c = 4 ∨ c = 5 by omega) with rfl | rfl | rfl | rfl | rfl | rfl <;>
        first | (exfalso; revert h; decide) | decide
theorem reftake_any (st : Int) (hs : List (Int × ByteArray)) (v : Value) (k : Int) (d : ByteArray) (w : World) (hv : Sl w 29 2 v hs.length (encF hs)) {st' what : Int} {hs' : List (Int × ByteArray)} (he : takeOf st hs (k, d) = (st', what, hs')) :
    Calls Try.prog 23 #[.agg #[.int .i64 st, v], .agg #[.int .i64 k, .string d]] w fun e w' => ∃ v', e = .returned (.tuple #[.agg #[.int .i64 st', v'], .int .i64 what]) ∧ RefOut w v hs' v' w' := by
  obtain ⟨A, c, rfl, _⟩ := hv.slice
  have ho := fun w => (refon_any st k w).mono fun _ _ h => And.imp_right Eq.symm h
  unfold takeOf at he
  by_cases h3 : onDo st k = 3
  · rw [if_pos h3] at he
    have h24 := onDo3st st k h3
    simp only [h3] at ho
    by_cases hl : hs.length < 4
    · rw [if_pos hl] at he
      simp only [Prod.mk.injEq] at he
      obtain ⟨rfl, rfl, rfl⟩ := he
      exact reftake_hold st hs A c k d w hv _ ho (by rcases h24 with ⟨_, h⟩ | ⟨_, h⟩ <;> rw [h] <;> rfl) hl
    · rw [if_neg hl] at he
      rcases h24 with ⟨rfl, h⟩ | ⟨rfl, h⟩
      · rw [if_pos h] at he
        simp only [Prod.mk.injEq] at he
        obtain ⟨rfl, rfl, rfl⟩ := he
        exact reftake_full2 2 hs A c k d w hv _ ho rfl (by omega)
      · rw [if_neg (by rw [h]; decide)] at he
        simp only [Prod.mk.injEq] at he
        obtain ⟨rfl, rfl, rfl⟩ := he
        exact reftake_full4 4 hs A c k d w hv _ ho rfl (by omega)
  · rw [if_neg h3] at he
    simp only [Prod.mk.injEq] at he
    obtain ⟨rfl, rfl, rfl⟩ := he
    have b3 : (onDo st k == 3) = false := by simp [h3]
    by_cases h6 : onTo st k = 6
    · rw [if_pos h6]
      rw [h6] at ho ⊢
      exact reftake_out st hs A c k d w hv _ ho b3
    · rw [if_neg h6]
      exact reftake_on st hs A c k d w hv _ _ ho b3 (by simp [h6])
set_option maxHeartbeats 4000000 in
theorem refnext_no (st : Int) (hs : List (Int × ByteArray)) (v : Value) (w : World) (hv : Sl w 29 2 v hs.length (encF hs)) (h : st = 2 ∨ st = 4 ∨ hs = []) :
    Calls Try.prog 24 #[.agg #[.int .i64 st, v]] w fun e w' => e = .returned (.tuple #[.agg #[.int .i64 st, v], .agg #[.int .i64 0, .string ByteArray.empty], .int .i64 0, .bool false]) ∧ B w w' := by
  obtain ⟨A, c, rfl, _⟩ := hv.slice
  clear hv
  rcases (show st = 2 ∨ ((st == 2) = false ∧ st = 4) ∨ ((st == 2) = false ∧ (st == 4) = false ∧ hs = []) by
    by_cases h2 : st = 2
    · exact .inl h2
    · by_cases h4 : st = 4
      · exact .inr (.inl ⟨by simp [h2], h4⟩)
      · rcases h with h | h | h
        · exact absurd h h2
        · exact absurd h h4
        · exact .inr (.inr ⟨by simp [h2], by simp [h4], h⟩)) with rfl | ⟨h2, rfl⟩ | ⟨h2, h4, rfl⟩
  all_goals
    clear h
    go_enter Try.func24, Try.ntmps24
    go_wp2
    refine bodyPost_ret (v := .tuple #[.agg #[.int .i64 _, .slice A _ c], .agg #[.int .i64 0, .string ByteArray.empty], .int .i64 0, .bool false]) (by simp [results, Try.results24, go_sem]; try rfl) rfl ⟨rfl, by (repeat (first | assumption | exact B_refl _ | refine B_drewN ?_ _ | refine B_drew ?_ | refine B_alloc ?_ _ | refine B_setCell ?_ (by first | (simp; done) | (simp; omega)) _ | refine B_trans ?_ (by assumption)))⟩
end Go.Proofs.Ytdmhlnjlbcapoaa
