/- FrontPlays: what the law's call comes to. -/
import Derived.Test.YtdmhlnjlbcapoaaFrO
import Derived.Deep.QuietTactic
import Derived.IntWalk
import Derived.Deep.RegionHeld3
import Derived.Test.YtdmhlnjlbcapoaaFrQ
import Derived.Test.YtdmhlnjlbcapoaaFrR
namespace Go.Proofs.Ytdmhlnjlbcapoaa
open Go.RowKit
/-- other blocks that are not to be touched: of those from before, or that have come since -/
theorem LF.swap {X Y : Nat → Prop} {w0 w w1 : World} {b : Nat} {st : Int} {hs : List (Int × ByteArray)} (h : LF X w0 w b st hs) (hb : B w w1) (hY : ∀ i, Y i → X i ∨ (w.heap.size ≤ i ∧ i < w1.heap.size)) : LF Y w0 w1 b st hs := by
  obtain ⟨v, h1, h2, h3, h4, h5, h6⟩ := h
  refine ⟨v, h1.b hb, h2, fun hx => ?_, fun g hg => ⟨(h4 g hg).1, fun hx => ?_⟩, fun i hi => ?_, B_trans h6 hb⟩
  · rcases hY _ hx with h | h
    · exact h3 h
    · have := h1.1.lt; omega
  · rcases hY _ hx with h | h
    · exact (h4 g hg).2 h
    · have := h1.2.lt hg; omega
  · rcases hY _ hi with h | h
    · have := h5 i h; have := hb.size; omega
    · exact h.2
/-- the script's slice, the answer's box, its held frames -/
abbrev XR (S : Value) (rb : Nat) (v : Value) : Nat → Prop := fun i => (S.ownBlock = some i ∨ i = rb) ∨ v.ownBlock = some i
theorem KX.less {X Y : Nat → Prop} {w w' : World} (h : KX X w w') (hX : ∀ i, Y i → X i) : KX Y w w' := ⟨h.1, fun i hi => h.2 i (hX i hi)⟩
theorem play_swap {w wk w5 : World} {b rb : Nat} {S v v5 : Value} {st0 : Int} {hs0 hs' : List (Int × ByteArray)} (h : LF (XR S rb v) w wk b st0 hs0) (hr : RefOut wk v hs' v5 w5) : LF (XR S rb v5) w w5 b st0 hs0 := by
  refine h.swap hr.2.1 ?_
  rintro i (h1 | h1)
  · exact .inl (.inl h1)
  · rcases hr.2.2 with h2 | h2
    · exact .inl (.inr (h2 ▸ h1))
    · exact .inr ⟨h2 i h1, hr.1.lt h1⟩
theorem play_swap' {w wk wg w5 : World} {b rb nb : Nat} {S v v5 : Value} {st0 : Int} {hs0 hs' : List (Int × ByteArray)} (h : LF (XR S rb v) w wk b st0 hs0) (hb : B wk wg) (hr : RefOut wg v hs' v5 w5) (hn : wk.heap.size ≤ nb) (hn' : nb < w5.heap.size) :
    LF (fun i => XR S rb v5 i ∨ i = nb) w w5 b st0 hs0 := by
  have hz := hb.size
  refine h.swap (B_trans hb hr.2.1) ?_
  rintro i ((h1 | h1) | h1)
  · exact .inl (.inl h1)
  · rcases hr.2.2 with h2 | h2
    · exact .inl (.inr (h2 ▸ h1))
    · exact .inr ⟨Nat.le_trans hz (h2 i h1), hr.1.lt h1⟩
  · subst h1
    exact .inr ⟨hn, hn'⟩
/-- what holds within a round: the front, the answer -/
def Mid (w : World) (b rb : Nat) (S : Value) (l : List Stp) (st : Int) (hs : List (Int × ByteArray)) (st' : Int) (hs' : List (Int × ByteArray)) (v : Value) (wr : World) : Prop :=
  LF (XR S rb v) w wr b st hs ∧ Sl wr 45 3 S l.length (encS l) ∧ Blk wr rb 42 #[.int .i64 st', v] ∧ Sl wr 29 2 v hs'.length (encF hs') ∧ w.heap.size ≤ rb
/-- what holds between the rounds -/
def Play (w : World) (b rb : Nat) (S : Value) (l : List Stp) (st : Int) (hs : List (Int × ByteArray)) (A : Option Addr) (c : Nat) (wr : World) : Prop := Mid w b rb S l st hs st hs (.slice A hs.length c) wr
theorem Mid.b {w wr w' : World} {b rb : Nat} {S v : Value} {l : List Stp} {st st' : Int} {hs hs' : List (Int × ByteArray)} (h : Mid w b rb S l st hs st' hs' v wr) (hb : B wr w') : Mid w b rb S l st hs st' hs' v w' :=
  ⟨h.1.onB hb, h.2.1.b hb, h.2.2.1.b hb, h.2.2.2.1.b hb, h.2.2.2.2⟩
theorem Mid.go {w wr w' : World} {b rb : Nat} {S v : Value} {l : List Stp} {st st' st2 : Int} {hs hs' hs2 : List (Int × ByteArray)} (h : Mid w b rb S l st hs st' hs' v wr) (hl : LF (XR S rb v) w w' b st2 hs2) (hk : KX (XR S rb v) wr w') : Mid w b rb S l st2 hs2 st' hs' v w' :=
  ⟨hl, h.2.1.kx' hk fun _ hg => .inl (.inl hg), h.2.2.1.kx hk (.inl (.inr rfl)), h.2.2.2.1.kx' hk fun _ hg => .inr hg, h.2.2.2.2⟩
theorem play_put {w w5 : World} {b rb : Nat} {S v5 : Value} {l : List Stp} {st : Int} {hs hs' : List (Int × ByteArray)} {u0 u1 : Value} (hL : LF (XR S rb v5) w w5 b st hs) (hS : Sl w5 45 3 S l.length (encS l))
    (hR : Blk w5 rb 42 #[u0, u1]) (hV : Sl w5 29 2 v5 hs'.length (encF hs')) (hge : w.heap.size ≤ rb) (st' : Int) :
    Mid w b rb S l st hs st' hs' v5 ((w5.setCell ⟨rb, 0, none⟩ (.int .i64 st')).setCell ⟨rb, 1, none⟩ v5) := by
  refine ⟨(hL.store (p := ⟨rb, 0, none⟩) (.inl (.inr rfl)) hge _).store (p := ⟨rb, 1, none⟩) (.inl (.inr rfl)) hge _, ?_, ?_, ?_, hge⟩
  · have hn := hS.ne_blk hR (by decide)
    exact (hS.far (p := ⟨rb, 0, none⟩) hn _).far (p := ⟨rb, 1, none⟩) hn _
  · have := (hR.set_ 0 (.int .i64 st')).set_ 1 v5
    simpa using this
  · have hn := hV.ne_blk hR (by decide)
    exact (hV.far (p := ⟨rb, 0, none⟩) hn _).far (p := ⟨rb, 1, none⟩) hn _
theorem play_put3 {w w5 : World} {b rb nb : Nat} {S v5 : Value} {l : List Stp} {st : Int} {hs hs' : List (Int × ByteArray)} {u0 u1 : Value} {cs : Array Value} (hL : LF (fun i => XR S rb v5 i ∨ i = nb) w w5 b st hs) (hS : Sl w5 45 3 S l.length (encS l))
    (hR : Blk w5 rb 42 #[u0, u1]) (hV : Sl w5 29 2 v5 hs'.length (encF hs')) (hge : w.heap.size ≤ rb) (hnb : Blk w5 nb 42 cs) (hgn : w.heap.size ≤ nb) (hne : rb ≠ nb) (t0 t1 : Value) (st' : Int) :
    Mid w b rb S l st hs st' hs' v5 ((((w5.setCell ⟨nb, 0, none⟩ t0).setCell ⟨nb, 1, none⟩ t1).setCell ⟨rb, 0, none⟩ (.int .i64 st')).setCell ⟨rb, 1, none⟩ v5) := by
  have n1 := hS.ne_blk hnb (by decide)
  have n2 := hV.ne_blk hnb (by decide)
  exact play_put (((hL.store (p := ⟨nb, 0, none⟩) (.inr rfl) hgn t0).store (p := ⟨nb, 1, none⟩) (.inr rfl) hgn t1).less fun _ h => .inl h) ((hS.far (p := ⟨nb, 0, none⟩) n1 _).far (p := ⟨nb, 1, none⟩) n1 _) ((hR.far (p := ⟨nb, 0, none⟩) hne _).far (p := ⟨nb, 1, none⟩) hne _)
    ((hV.far (p := ⟨nb, 0, none⟩) n2 _).far (p := ⟨nb, 1, none⟩) n2 _) hge st'
set_option maxRecDepth 100000 in
set_option maxHeartbeats 8000000 in
theorem walk_FrontPlays (w : World) (A : Option Addr) (len cap : Nat) (_ : len ≤ cap) (hcap : cap ≤ maxLen) (y : len * 32 ≤ 140737488351232) (xs : List Value) (_ : xs.length = len * 3)
    (rd : Rds w A xs) (lf : ∀ (i j : Nat) (k : FK), i < len → [FK.int, FK.int, FK.str][j]? = some k → ∃ u, xs[i * 3 + j]? = some u ∧ leafOk k u) :
    Calls Try.prog 5 #[.slice A len cap] w fun e w' => e = .returned (.bool true) ∧ B w w' := by
  have RD := Lib.hid rd
  have LFS := Lib.hid lf
  clear rd lf
  go_enter Try.func5, Try.ntmps5
  go_wp2_with fail
  refine (lives_any _).mono ?_
  rintro e w1 ⟨rfl, hb1⟩
  go_wp2_with fail
  refine (LF.new (X := NoX) hb1 (fun _ h => h.elim)).mono ?_
  rintro e w2 ⟨rfl, h2, hb2⟩
  obtain ⟨b, hb⟩ : ∃ b, b = w1.heap.size := ⟨_, rfl⟩
  rw [← hb] at h2 ⊢
  clear hb
  go_wp2_with fail
  refine (early_any (w2.alloc (.cells #[.int .i64 0, .slice none 0 0] 42)) A len cap hcap y xs (RD.out.b (B_alloc (B_trans hb1 hb2) _)) LFS.out).mono ?_
  rintro e w3 ⟨v, l, rfl, hl, hS, hO, hb3⟩
  obtain ⟨A', c', rfl, _⟩ := hS.slice
  have hP : Play w b w2.heap.size (.slice A' l.length c') l 0 [] none 0 w3 := by
    refine ⟨h2.swap (B_trans (B_alloc (B_refl _) _) hb3) ?_, hS, Blk.b (Blk.new _ _ _) hb3, Sl.nil _ _ _, (B_trans hb1 hb2).size⟩
    have hz := hb3.size
    simp at hz
    rintro i ((h | h) | h)
    · have h1 := hO i h
      have h2 := hS.lt h
      simp at h1
      exact .inr ⟨by omega, h2⟩
    · subst h
      exact .inr ⟨Nat.le_refl _, by omega⟩
    · simp [Value.ownBlock] at h
  have HP := Lib.hid hP
  clear hP h2 hO hS hb1 hb2 hb3
  obtain ⟨rb, hrb⟩ : ∃ rb, rb = w2.heap.size := ⟨_, rfl⟩
  rw [← hrb] at HP ⊢
  clear hrb
  go_wp2_with fail
  go_loopw [5] (fun i wr => ∃ (k : Nat) (st : Int) (hs : List (Int × ByteArray)) (A : Option Addr) (c : Nat), k ≤ l.length ∧ i = .int .i64 k ∧ Play w b rb (.slice A' l.length c') l st hs A c wr) (fun i _ => l.length - (intOf i).toNat)
  case atStart => exact ⟨0, 0, [], none, 0, Nat.zero_le _, rfl, HP.out⟩
  case round =>
    obtain ⟨k, st, hs, RA, rc, hk, rfl, hP⟩ := hrel
    obtain ⟨hL, hS, hR, hV, hge⟩ := hP
    have r0 := hR.cell 0
    have r1 := hR.cell 1
    have r2 := hR.frozen 0
    have r3 := hR.frozen 1
    have r4 := hR.lt
    simp at r0 r1
    have HL := Lib.hid hL
    have HS := Lib.hid hS
    have HR := Lib.hid hR
    have HV := Lib.hid hV
    have HGE := Lib.hid hge
    clear hL hS hR hV hge
    by_cases hlt : k < l.length
    · obtain ⟨⟨n0, n1, d⟩, hx⟩ : ∃ x, l[k]? = some x := ⟨_, List.getElem?_eq_getElem hlt⟩
      obtain ⟨e0, e1, e2⟩ := encS_at l k _ hx
      obtain ⟨g, o, hA, hg, hc⟩ := HS.out.rds.at_ e0
      have c0 := hc _ _ e0
      have c1 := hc _ _ e1
      have c2 := hc _ _ e2
      simp only [← Nat.add_assoc] at c1 c2
      clear hc e0 e1 e2 hx
      obtain ⟨r0, r1⟩ := kindOf_range n0
      have hkd := kind_any n0 n1 d
      generalize kindOf n0 = c at *
      have HKD := Lib.hid hkd
      clear hkd
      subst hA
      rcases (show c = 0 ∨ c = 1 ∨ 2 ≤ c by omega) with rfl | rfl | hc2
      · obtain ⟨st', what, hs', he⟩ : ∃ a b c, takeOf st hs (n1, d) = (a, b, c) := ⟨_, _, _, rfl⟩
        have HE := Lib.hid he
        clear he
        go_wp2_with fail
        refine (HKD.out _).mono ?_
        rintro e wk ⟨rfl, hbk⟩
        have q : Blk wk wr.heap.size 45 #[.int .i64 n0, .int .i64 n1, .string d] := Blk.b (Blk.new _ _ _) hbk
        have q0 := q.cell 0
        have q1 := q.cell 1
        have q2 := q.cell 2
        have q3 := q.lt
        have p : Blk wk rb 42 #[.int .i64 st, .slice RA hs.length rc] := Blk.b (HR.out.alloc _) hbk
        have p0 := p.cell 0
        have p1 := p.cell 1
        have p2 := p.frozen 0
        have p3 := p.frozen 1
        have p4 := p.lt
        simp at q0 q1 q2 p0 p1
        have HQ := Lib.hid q
        have HR1 := Lib.hid p
        have HV1 := Lib.hid ((HV.out.alloc (.cells #[.int .i64 n0, .int .i64 n1, .string d] 45)).b hbk)
        have HS1 := Lib.hid ((HS.out.alloc (.cells #[.int .i64 n0, .int .i64 n1, .string d] 45)).b hbk)
        have HL1 := Lib.hid ((HL.out.alloc (.cells #[.int .i64 n0, .int .i64 n1, .string d] 45)).onB hbk)
        clear q p hbk
        go_wp2_with fail
        refine (reftake_any st hs _ n1 d wk HV1.out HE.out).mono ?_
        rintro e w5 ⟨v5, rfl, hs5, hb5, hn5⟩
        obtain ⟨A5, c5, rfl, _⟩ := hs5.slice
        have HL5 := Lib.hid (play_swap HL1.out ⟨hs5, hb5, hn5⟩)
        have HV5 := Lib.hid hs5
        have HS5 := Lib.hid (HS1.out.b hb5)
        have p' : Blk w5 rb 42 #[.int .i64 st, .slice RA hs.length rc] := HR1.out.b hb5
        have q' : Blk w5 wr.heap.size 45 #[.int .i64 n0, .int .i64 n1, .string d] := HQ.out.b hb5
        have t0 := q'.cell 0
        have t1 := q'.cell 1
        have t2 := q'.cell 2
        have t3 := q'.lt
        have s0 := p'.cell 0
        have s1 := p'.cell 1
        have s2 := p'.frozen 0
        have s3 := p'.frozen 1
        have s4 := p'.lt
        simp at t0 t1 t2 s0 s1
        have HR5 := Lib.hid p'
        have HQ5 := Lib.hid q'
        clear p' q' hs5 hb5 hn5
        go_wp2_with fail
        have HM6 := Lib.hid (play_put HL5.out HS5.out HR5.out HV5.out HGE.out st')
        clear HL5 HS5 HR5 HV5 HL1 HS1 HR1 HV1
        refine (LF.take ((HM6.out.b (B_alloc (B_refl _) _)).1) n1 d _ _ _ HE.out).mono ?_
        rintro e w7 ⟨rfl, h7, k7⟩
        have m7 := (HM6.out.b (B_alloc (B_refl _) _)).go h7 k7
        have z := m7.2.2.1
        have z0 := z.cell 0
        have z1 := z.cell 1
        have z2 := z.frozen 0
        have z3 := z.frozen 1
        have z4 := z.lt
        simp at z0 z1
        have HM7 := Lib.hid m7
        clear z h7 k7 m7
        go_wp2_with fail
        go_quiet (first | (go_at_call_of 3 12; exact Calls.quiet_of_same (((HM7.out.b (by (repeat (first | assumption | exact B_refl _ | refine B_drewN ?_ _ | refine B_drew ?_ | refine B_alloc ?_ _ | refine B_setCell ?_ (by first | (simp; done) | (simp; omega)) _ | refine B_trans ?_ (by assumption))))).1.state).mono fun _ _ h => And.imp_right Eq.symm h)) | (go_at_call_of 3 14; exact Calls.quiet_of_same (((HM7.out.b (by (repeat (first | assumption | exact B_refl _ | refine B_drewN ?_ _ | refine B_drew ?_ | refine B_alloc ?_ _ | refine B_setCell ?_ (by first | (simp; done) | (simp; omega)) _ | refine B_trans ?_ (by assumption))))).1.held).mono fun _ _ h => And.imp_right Eq.symm h)) | exact Calls.quiet_of_same (((HM7.out.b (by (repeat (first | assumption | exact B_refl _ | refine B_drewN ?_ _ | refine B_drew ?_ | refine B_alloc ?_ _ | refine B_setCell ?_ (by first | (simp; done) | (simp; omega)) _ | refine B_trans ?_ (by assumption))))).1.state).mono fun _ _ h => And.imp_right Eq.symm h) | exact Calls.quiet_of_same (((HM7.out.b (by (repeat (first | assumption | exact B_refl _ | refine B_drewN ?_ _ | refine B_drew ?_ | refine B_alloc ?_ _ | refine B_setCell ?_ (by first | (simp; done) | (simp; omega)) _ | refine B_trans ?_ (by assumption))))).1.held).mono fun _ _ h => And.imp_right Eq.symm h))
        all_goals go_wp2_with fail
        all_goals go_roundw
        all_goals first | (exact ⟨k + 1, _, _, _, _, by omega, by go_num, HM7.out.b (by (repeat (first | assumption | exact B_refl _ | refine B_drewN ?_ _ | refine B_drew ?_ | refine B_alloc ?_ _ | refine B_setCell ?_ (by first | (simp; done) | (simp; omega)) _ | refine B_trans ?_ (by assumption))))⟩) | (simp [intOf]; omega)
      · rcases (show (st = 2 ∨ st = 4 ∨ hs = []) ∨ (st ≠ 2 ∧ st ≠ 4 ∧ ∃ x r, hs = x :: r) by
          by_cases a : st = 2
          · exact .inl (.inl a)
          · by_cases b : st = 4
            · exact .inl (.inr (.inl b))
            · cases hs with
              | nil => exact .inl (.inr (.inr rfl))
              | cons x r => exact .inr ⟨a, b, x, r, rfl⟩) with hno | ⟨n2, n4, x, r, rfl⟩
        · have HN := Lib.hid hno
          clear hno
          go_wp2_with fail
          refine (HKD.out _).mono ?_
          rintro e wk ⟨rfl, hbk⟩
          have q : Blk wk wr.heap.size 45 #[.int .i64 n0, .int .i64 n1, .string d] := Blk.b (Blk.new _ _ _) hbk
          have q0 := q.cell 0
          have q1 := q.cell 1
          have q2 := q.cell 2
          have q3 := q.lt
          have p : Blk wk rb 42 #[.int .i64 st, .slice RA hs.length rc] := Blk.b (HR.out.alloc _) hbk
          have p0 := p.cell 0
          have p1 := p.cell 1
          have p2 := p.frozen 0
          have p3 := p.frozen 1
          have p4 := p.lt
          simp at q0 q1 q2 p0 p1
          have HQ := Lib.hid q
          have HR1 := Lib.hid p
          have HV1 := Lib.hid ((HV.out.alloc (.cells #[.int .i64 n0, .int .i64 n1, .string d] 45)).b hbk)
          have HS1 := Lib.hid ((HS.out.alloc (.cells #[.int .i64 n0, .int .i64 n1, .string d] 45)).b hbk)
          have HL1 := Lib.hid ((HL.out.alloc (.cells #[.int .i64 n0, .int .i64 n1, .string d] 45)).onB hbk)
          clear q p hbk
          go_wp2_with fail
          refine (refnext_no_out st hs _ wk HV1.out HN.out).mono ?_
          rintro e w5 ⟨v5, rfl, hs5, hb5, hn5⟩
          obtain ⟨A5, c5, rfl, _⟩ := hs5.slice
          have HL5 := Lib.hid (play_swap HL1.out ⟨hs5, hb5, hn5⟩)
          have HV5 := Lib.hid hs5
          have HS5 := Lib.hid (HS1.out.b hb5)
          have p' : Blk w5 rb 42 #[.int .i64 st, .slice RA hs.length rc] := HR1.out.b hb5
          have q' : Blk w5 wr.heap.size 45 #[.int .i64 n0, .int .i64 n1, .string d] := HQ.out.b hb5
          have t0 := q'.cell 0
          have t1 := q'.cell 1
          have t2 := q'.cell 2
          have t3 := q'.lt
          have s0 := p'.cell 0
          have s1 := p'.cell 1
          have s2 := p'.frozen 0
          have s3 := p'.frozen 1
          have s4 := p'.lt
          simp at t0 t1 t2 s0 s1
          have HR5 := Lib.hid p'
          have HQ5 := Lib.hid q'
          clear p' q' hs5 hb5 hn5
          go_wp2_with fail
          have HM6 := Lib.hid (play_put HL5.out HS5.out HR5.out HV5.out HGE.out st)
          clear HL5 HS5 HR5 HV5 HL1 HS1 HR1 HV1
          refine (LF.next_no ((HM6.out.1.more _).more _) HN.out).mono ?_
          rintro e w7 ⟨rfl, h7, k7⟩
          have m7 := (HM6.out.b (B_alloc (B_alloc (B_refl _) (.cells #[.int .i64 st, .slice A5 (hs.length) c5] 42)) (.cells #[.int .i64 0, .string ByteArray.empty] 29))).go (h7.less fun _ h => .inl (.inl h)) (k7.less fun _ h => .inl (.inl h))
          have z := m7.2.2.1
          have z0 := z.cell 0
          have z1 := z.cell 1
          have z2 := z.frozen 0
          have z3 := z.frozen 1
          have z4 := z.lt
          have xb : Blk w7 (w5.heap.size + 1) 29 #[.int .i64 0, .string ByteArray.empty] := Blk.kx (by exact heap_at_new _ (by simp)) k7 (.inr (by simp))
          have x0 := xb.cell 0
          have x1 := xb.cell 1
          have x2 := xb.lt
          simp at z0 z1 x0 x1
          have HM7 := Lib.hid m7
          clear z h7 k7 m7 xb
          go_wp2_with fail
          go_quiet (first | (go_at_call_of 3 12; exact Calls.quiet_of_same (((HM7.out.b (by (repeat (first | assumption | exact B_refl _ | refine B_drewN ?_ _ | refine B_drew ?_ | refine B_alloc ?_ _ | refine B_setCell ?_ (by first | (simp; done) | (simp; omega)) _ | refine B_trans ?_ (by assumption))))).1.state).mono fun _ _ h => And.imp_right Eq.symm h)) | (go_at_call_of 3 14; exact Calls.quiet_of_same (((HM7.out.b (by (repeat (first | assumption | exact B_refl _ | refine B_drewN ?_ _ | refine B_drew ?_ | refine B_alloc ?_ _ | refine B_setCell ?_ (by first | (simp; done) | (simp; omega)) _ | refine B_trans ?_ (by assumption))))).1.held).mono fun _ _ h => And.imp_right Eq.symm h)) | exact Calls.quiet_of_same (((HM7.out.b (by (repeat (first | assumption | exact B_refl _ | refine B_drewN ?_ _ | refine B_drew ?_ | refine B_alloc ?_ _ | refine B_setCell ?_ (by first | (simp; done) | (simp; omega)) _ | refine B_trans ?_ (by assumption))))).1.state).mono fun _ _ h => And.imp_right Eq.symm h) | exact Calls.quiet_of_same (((HM7.out.b (by (repeat (first | assumption | exact B_refl _ | refine B_drewN ?_ _ | refine B_drew ?_ | refine B_alloc ?_ _ | refine B_setCell ?_ (by first | (simp; done) | (simp; omega)) _ | refine B_trans ?_ (by assumption))))).1.held).mono fun _ _ h => And.imp_right Eq.symm h))
          all_goals go_wp2_with fail
          all_goals go_roundw
          all_goals first | (exact ⟨k + 1, _, _, _, _, by omega, by go_num, HM7.out.b (by (repeat (first | assumption | exact B_refl _ | refine B_drewN ?_ _ | refine B_drew ?_ | refine B_alloc ?_ _ | refine B_setCell ?_ (by first | (simp; done) | (simp; omega)) _ | refine B_trans ?_ (by assumption))))⟩) | (simp [intOf]; omega)
        · have b2 : (st == 2) = false := by simp [n2]
          have b4 : (st == 4) = false := by simp [n4]
          obtain ⟨st', what, hs', he⟩ : ∃ a b c, takeOf st r x = (a, b, c) := ⟨_, _, _, rfl⟩
          have HE := Lib.hid he
          have N2 := Lib.hid n2
          have N4 := Lib.hid n4
          have B2 := Lib.hid b2
          have B4 := Lib.hid b4
          clear he n2 n4 b2 b4
          obtain ⟨hs, hhs⟩ : ∃ hs, hs = x :: r := ⟨_, rfl⟩
          rw [← hhs] at HL HR HV r1
          have HH := Lib.hid hhs
          clear hhs
          go_wp2_with fail
          refine (HKD.out _).mono ?_
          rintro e wk ⟨rfl, hbk⟩
          have q : Blk wk wr.heap.size 45 #[.int .i64 n0, .int .i64 n1, .string d] := Blk.b (Blk.new _ _ _) hbk
          have q0 := q.cell 0
          have q1 := q.cell 1
          have q2 := q.cell 2
          have q3 := q.lt
          have p : Blk wk rb 42 #[.int .i64 st, .slice RA hs.length rc] := Blk.b (HR.out.alloc _) hbk
          have p0 := p.cell 0
          have p1 := p.cell 1
          have p2 := p.frozen 0
          have p3 := p.frozen 1
          have p4 := p.lt
          simp at q0 q1 q2 p0 p1
          have HQ := Lib.hid q
          have HR1 := Lib.hid p
          have HV1 := Lib.hid ((HV.out.alloc (.cells #[.int .i64 n0, .int .i64 n1, .string d] 45)).b hbk)
          have HS1 := Lib.hid ((HS.out.alloc (.cells #[.int .i64 n0, .int .i64 n1, .string d] 45)).b hbk)
          have HL1 := Lib.hid ((HL.out.alloc (.cells #[.int .i64 n0, .int .i64 n1, .string d] 45)).onB hbk)
          clear q p hbk
          go_wp2_with fail
          refine (refnext_yes st x r _ wk (by have := HV1.out; rw [HH.out] at this ⊢; exact this) B2.out B4.out HE.out).mono ?_
          rintro e w5 ⟨v5, rfl, hs5, hb5, hn5⟩
          obtain ⟨A5, c5, rfl, _⟩ := hs5.slice
          have HL5 := Lib.hid (play_swap HL1.out ⟨hs5, hb5, hn5⟩)
          have HV5 := Lib.hid hs5
          have HS5 := Lib.hid (HS1.out.b hb5)
          have p' : Blk w5 rb 42 #[.int .i64 st, .slice RA hs.length rc] := HR1.out.b hb5
          have q' : Blk w5 wr.heap.size 45 #[.int .i64 n0, .int .i64 n1, .string d] := HQ.out.b hb5
          have t0 := q'.cell 0
          have t1 := q'.cell 1
          have t2 := q'.cell 2
          have t3 := q'.lt
          have s0 := p'.cell 0
          have s1 := p'.cell 1
          have s2 := p'.frozen 0
          have s3 := p'.frozen 1
          have s4 := p'.lt
          simp at t0 t1 t2 s0 s1
          have HR5 := Lib.hid p'
          have HQ5 := Lib.hid q'
          clear p' q' hs5 hb5 hn5
          go_wp2_with fail
          have HM6 := Lib.hid (play_put HL5.out HS5.out HR5.out HV5.out HGE.out st')
          clear HL5 HS5 HR5 HV5 HL1 HS1 HR1 HV1
          refine (LF.next_yes (by rw [← HH.out]; exact ((HM6.out.1.more _).more _)) N2.out N4.out _ _ _ HE.out).mono ?_
          rintro e w7 ⟨rfl, h7, k7⟩
          have m7 := (HM6.out.b (B_alloc (B_alloc (B_refl _) (.cells #[.int .i64 st', .slice A5 (hs'.length) c5] 42)) (.cells #[.int .i64 x.1, .string x.2] 29))).go (h7.less fun _ h => .inl (.inl h)) (k7.less fun _ h => .inl (.inl h))
          have z := m7.2.2.1
          have z0 := z.cell 0
          have z1 := z.cell 1
          have z2 := z.frozen 0
          have z3 := z.frozen 1
          have z4 := z.lt
          have xb : Blk w7 (w5.heap.size + 1) 29 #[.int .i64 x.1, .string x.2] := Blk.kx (by exact heap_at_new _ (by simp)) k7 (.inr (by simp))
          have x0 := xb.cell 0
          have x1 := xb.cell 1
          have x2 := xb.lt
          simp at z0 z1 x0 x1
          have HM7 := Lib.hid m7
          clear z h7 k7 m7 xb
          go_wp2_with fail
          go_quiet (first | (go_at_call_of 3 12; exact Calls.quiet_of_same (((HM7.out.b (by (repeat (first | assumption | exact B_refl _ | refine B_drewN ?_ _ | refine B_drew ?_ | refine B_alloc ?_ _ | refine B_setCell ?_ (by first | (simp; done) | (simp; omega)) _ | refine B_trans ?_ (by assumption))))).1.state).mono fun _ _ h => And.imp_right Eq.symm h)) | (go_at_call_of 3 14; exact Calls.quiet_of_same (((HM7.out.b (by (repeat (first | assumption | exact B_refl _ | refine B_drewN ?_ _ | refine B_drew ?_ | refine B_alloc ?_ _ | refine B_setCell ?_ (by first | (simp; done) | (simp; omega)) _ | refine B_trans ?_ (by assumption))))).1.held).mono fun _ _ h => And.imp_right Eq.symm h)) | exact Calls.quiet_of_same (((HM7.out.b (by (repeat (first | assumption | exact B_refl _ | refine B_drewN ?_ _ | refine B_drew ?_ | refine B_alloc ?_ _ | refine B_setCell ?_ (by first | (simp; done) | (simp; omega)) _ | refine B_trans ?_ (by assumption))))).1.state).mono fun _ _ h => And.imp_right Eq.symm h) | exact Calls.quiet_of_same (((HM7.out.b (by (repeat (first | assumption | exact B_refl _ | refine B_drewN ?_ _ | refine B_drew ?_ | refine B_alloc ?_ _ | refine B_setCell ?_ (by first | (simp; done) | (simp; omega)) _ | refine B_trans ?_ (by assumption))))).1.held).mono fun _ _ h => And.imp_right Eq.symm h))
          all_goals go_wp2_with fail
          all_goals go_roundw
          all_goals first | (exact ⟨k + 1, _, _, _, _, by omega, by go_num, HM7.out.b (by (repeat (first | assumption | exact B_refl _ | refine B_drewN ?_ _ | refine B_drew ?_ | refine B_alloc ?_ _ | refine B_setCell ?_ (by first | (simp; done) | (simp; omega)) _ | refine B_trans ?_ (by assumption))))⟩) | (simp [intOf]; omega)
      · have bc0 : (c == 0) = false := by simp; omega
        have bc1 : (c == 1) = false := by simp; omega
        have hcall := fun w' X (h : LF X w w' b st hs) => LF.call h (c - 2)
        obtain ⟨did, st', hs', he⟩ : ∃ a b d, callOf st hs (c - 2) = (a, b, d) := ⟨_, _, _, rfl⟩
        rw [he] at hcall
        have HC := Lib.hid hcall
        have HE := Lib.hid he
        clear hcall he
        go_wp2_with fail
        refine (HKD.out _).mono ?_
        rintro e wk ⟨rfl, hbk⟩
        have q : Blk wk wr.heap.size 45 #[.int .i64 n0, .int .i64 n1, .string d] := Blk.b (Blk.new _ _ _) hbk
        have q0 := q.cell 0
        have q1 := q.cell 1
        have q2 := q.cell 2
        have q3 := q.lt
        have p : Blk wk rb 42 #[.int .i64 st, .slice RA hs.length rc] := Blk.b (HR.out.alloc _) hbk
        have p0 := p.cell 0
        have p1 := p.cell 1
        have p2 := p.frozen 0
        have p3 := p.frozen 1
        have p4 := p.lt
        simp at q0 q1 q2 p0 p1
        have HQ := Lib.hid q
        have HR1 := Lib.hid p
        have HV1 := Lib.hid ((HV.out.alloc (.cells #[.int .i64 n0, .int .i64 n1, .string d] 45)).b hbk)
        have HS1 := Lib.hid ((HS.out.alloc (.cells #[.int .i64 n0, .int .i64 n1, .string d] 45)).b hbk)
        have HL1 := Lib.hid ((HL.out.alloc (.cells #[.int .i64 n0, .int .i64 n1, .string d] 45)).onB hbk)
        clear q p hbk
        go_wp2_with fail
        have HC3w : IntKind.i64.wrap (c - 2) = c - 2 := IntWalk.i64_in _ (by omega)
        have HC0 := Lib.hid (show 0 ≤ c - 2 by omega)
        have HC3 := Lib.hid (show c - 2 ≤ 3 by omega)
        have keepS : ∀ W, B wk W → (W.cell? ⟨rb, 0, none⟩ = some (.int .i64 st) ∧ W.cell? ⟨rb, 1, none⟩ = some (.slice RA hs.length rc) ∧ W.cell? ⟨wr.heap.size, 0, none⟩ = some (.int .i64 n0) ∧ W.cell? ⟨wr.heap.size, 1, none⟩ = some (.int .i64 n1) ∧ W.cell? ⟨wr.heap.size, 2, none⟩ = some (.string d)) ∧ B wk W := fun W hb =>
          ⟨⟨((HR1.out.b hb).cell 0).trans rfl, ((HR1.out.b hb).cell 1).trans rfl, ((HQ.out.b hb).cell 0).trans rfl, ((HQ.out.b hb).cell 1).trans rfl, ((HQ.out.b hb).cell 2).trans rfl⟩, hb⟩
        have HKS := Lib.hid keepS
        clear keepS
        have hb0 : B wk wk := B_refl wk
        go_region_held3 (fun W => (W.cell? ⟨rb, 0, none⟩ = some (.int .i64 st) ∧ W.cell? ⟨rb, 1, none⟩ = some (.slice RA hs.length rc) ∧ W.cell? ⟨wr.heap.size, 0, none⟩ = some (.int .i64 n0) ∧ W.cell? ⟨wr.heap.size, 1, none⟩ = some (.int .i64 n1) ∧ W.cell? ⟨wr.heap.size, 2, none⟩ = some (.string d)) ∧ B wk W) ((refine HKS.out _ ?_; (repeat (first | assumption | exact B_refl _ | refine B_drewN ?_ _ | refine B_drew ?_ | refine B_alloc ?_ _ | refine B_setCell ?_ (by first | (simp; done) | (simp; omega)) _ | refine B_trans ?_ (by assumption)))))
          (first | (go_at_call 22; refine (HKD.out _).mono ?_; rintro e wj ⟨rfl, hbj⟩; have bj : B wk wj := B_trans (by (repeat (first | assumption | exact B_refl _ | refine B_drewN ?_ _ | refine B_drew ?_ | refine B_alloc ?_ _ | refine B_setCell ?_ (by first | (simp; done) | (simp; omega)) _ | refine B_trans ?_ (by assumption)))) hbj; have bz : wk.heap.size ≤ wj.heap.size := bj.size; (try ((first | with_reducible (have nb := Blk.b (Blk.new wk 42 #[.int .i64 0, .slice none 0 0]) hbj) | with_reducible (have nb := Blk.b (Blk.new wk 42 #[.int .i64 0, .slice none 0 0]) (B_trans (B_drew (B_refl _)) hbj)) | with_reducible (have nb := Blk.b (Blk.new wk 42 #[.int .i64 0, .slice none 0 0]) (B_trans (B_drewN (B_refl _) _) hbj))); have i0 := nb.cell 0; have i1 := nb.cell 1; have i2 := nb.frozen 0; have i3 := nb.frozen 1; have i4 := nb.lt; simp at i0 i1)); clear hbj) | (go_at_call 25; refine (refgo_any st hs _ (c - 2) HC0.out HC3.out _ (HV1.out.b (by (repeat (first | assumption | exact B_refl _ | refine B_drewN ?_ _ | refine B_drew ?_ | refine B_alloc ?_ _ | refine B_setCell ?_ (by first | (simp; done) | (simp; omega)) _ | refine B_trans ?_ (by assumption))))) HE.out).mono ?_; rintro e w5 ⟨v5, rfl, hs5, hb5, hn5⟩; obtain ⟨A5, c5, rfl, _⟩ := hs5.slice; have b5 : B wk w5 := B_trans (by (repeat (first | assumption | exact B_refl _ | refine B_drewN ?_ _ | refine B_drew ?_ | refine B_alloc ?_ _ | refine B_setCell ?_ (by first | (simp; done) | (simp; omega)) _ | refine B_trans ?_ (by assumption)))) hb5; have HL5 := Lib.hid (play_swap (HL1.out.onB (by (repeat (first | assumption | exact B_refl _ | refine B_drewN ?_ _ | refine B_drew ?_ | refine B_alloc ?_ _ | refine B_setCell ?_ (by first | (simp; done) | (simp; omega)) _ | refine B_trans ?_ (by assumption))))) ⟨hs5, hb5, hn5⟩); have HV5 := Lib.hid hs5; have HO5 := Lib.hid (show RefOut _ (.slice RA hs.length rc) hs' (.slice A5 hs'.length c5) w5 from ⟨hs5, hb5, hn5⟩); (try ((first | with_reducible (have nb5 := Blk.b (Blk.new wj 42 #[.int .i64 0, .slice none 0 0]) hb5) | with_reducible (have nb5 := Blk.b (Blk.new wj 42 #[.int .i64 0, .slice none 0 0]) (B_trans (B_drew (B_refl _)) hb5)) | with_reducible (have nb5 := Blk.b (Blk.new wj 42 #[.int .i64 0, .slice none 0 0]) (B_trans (B_drewN (B_refl _) _) hb5))); have i0 := nb5.cell 0; have i1 := nb5.cell 1; have i2 := nb5.frozen 0; have i3 := nb5.frozen 1; have i4 := nb5.lt; simp at i0 i1)); (try ((first | with_reducible (have nb5 := Blk.b (nb) hb5) | with_reducible (have nb5 := Blk.b (nb) (B_trans (B_drew (B_refl _)) hb5)) | with_reducible (have nb5 := Blk.b (nb) (B_trans (B_drewN (B_refl _) _) hb5))); have i0 := nb5.cell 0; have i1 := nb5.cell 1; have i2 := nb5.frozen 0; have i3 := nb5.frozen 1; have i4 := nb5.lt; simp at i0 i1)); clear hs5 hb5 hn5))
        all_goals
          have p5 : Blk w5 rb 42 #[.int .i64 st, .slice RA hs.length rc] := HR1.out.b b5
          have q5 : Blk w5 wr.heap.size 45 #[.int .i64 n0, .int .i64 n1, .string d] := HQ.out.b b5
          have g0 := p5.cell 0
          have g1 := p5.cell 1
          have g2 := p5.frozen 0
          have g3 := p5.frozen 1
          have g4 := p5.lt
          have m0 := q5.cell 0
          have m1 := q5.cell 1
          have m2 := q5.cell 2
          have m3 := q5.lt
          simp at g0 g1 m0 m1 m2
          have HR5 := Lib.hid p5
          have HS5 := Lib.hid (HS1.out.b b5)
          have hrn : rb ≠ wr.heap.size := by omega
          have hrj : rb ≠ wj.heap.size := by omega
          have hwj : wr.heap.size ≠ wj.heap.size := by omega
          clear p5 q5
          go_wp2_with fail
          first
            | (have HM6 := Lib.hid ((play_put HL5.out HS5.out HR5.out HV5.out HGE.out st').b (B_alloc (B_refl _) (.cells #[.int .i64 st', .slice A5 hs'.length c5] 42))); (refine (HKD.out _).mono ?_; rintro e wm ⟨rfl, hbm⟩; have HM8 := Lib.hid (HM6.out.b hbm); clear hbm))
            | (have HM6 := Lib.hid (play_put (HL5.out.alloc (.cells #[.int .i64 st', .slice A5 hs'.length c5] 42)) (HS5.out.alloc _) (HR5.out.alloc _) (HV5.out.alloc _) HGE.out st'); (refine (HKD.out _).mono ?_; rintro e wm ⟨rfl, hbm⟩; have HM8 := Lib.hid (HM6.out.b hbm); clear hbm))
            | (have HM6 := Lib.hid (play_put3 (play_swap' HL1.out (by (repeat (first | assumption | exact B_refl _ | refine B_drewN ?_ _ | refine B_drew ?_ | refine B_alloc ?_ _ | refine B_setCell ?_ (by first | (simp; done) | (simp; omega)) _ | refine B_trans ?_ (by assumption)))) HO5.out (by omega) nb5.lt) HS5.out HR5.out HV5.out HGE.out nb5 (by have := HL1.out.below.size; omega) (by omega) (.int .i64 st') (.slice A5 hs'.length c5) st'); (refine (HKD.out _).mono ?_; rintro e wm ⟨rfl, hbm⟩; have HM8 := Lib.hid (HM6.out.b hbm); clear hbm))
          go_wp2_with fail
          refine (HC.out _ _ HM8.out.1).mono ?_
          rintro e w7 ⟨rfl, h7, k7⟩
          have m7 := HM8.out.go h7 k7
          have z := m7.2.2.1
          have z0 := z.cell 0
          have z1 := z.cell 1
          have z2 := z.frozen 0
          have z3 := z.frozen 1
          have z4 := z.lt
          simp at z0 z1
          have HM7 := Lib.hid m7
          clear z h7 k7 m7
          go_wp2_with fail
          go_quiet (first | (go_at_call_of 3 12; exact Calls.quiet_of_same (((HM7.out.b (by (repeat (first | assumption | exact B_refl _ | refine B_drewN ?_ _ | refine B_drew ?_ | refine B_alloc ?_ _ | refine B_setCell ?_ (by first | (simp; done) | (simp; omega)) _ | refine B_trans ?_ (by assumption))))).1.state).mono fun _ _ h => And.imp_right Eq.symm h)) | (go_at_call_of 3 14; exact Calls.quiet_of_same (((HM7.out.b (by (repeat (first | assumption | exact B_refl _ | refine B_drewN ?_ _ | refine B_drew ?_ | refine B_alloc ?_ _ | refine B_setCell ?_ (by first | (simp; done) | (simp; omega)) _ | refine B_trans ?_ (by assumption))))).1.held).mono fun _ _ h => And.imp_right Eq.symm h)) | exact Calls.quiet_of_same (((HM7.out.b (by (repeat (first | assumption | exact B_refl _ | refine B_drewN ?_ _ | refine B_drew ?_ | refine B_alloc ?_ _ | refine B_setCell ?_ (by first | (simp; done) | (simp; omega)) _ | refine B_trans ?_ (by assumption))))).1.state).mono fun _ _ h => And.imp_right Eq.symm h) | exact Calls.quiet_of_same (((HM7.out.b (by (repeat (first | assumption | exact B_refl _ | refine B_drewN ?_ _ | refine B_drew ?_ | refine B_alloc ?_ _ | refine B_setCell ?_ (by first | (simp; done) | (simp; omega)) _ | refine B_trans ?_ (by assumption))))).1.held).mono fun _ _ h => And.imp_right Eq.symm h))
          all_goals go_wp2_with fail
          all_goals go_roundw
          all_goals first | (exact ⟨k + 1, _, _, _, _, by omega, by go_num, HM7.out.b (by (repeat (first | assumption | exact B_refl _ | refine B_drewN ?_ _ | refine B_drew ?_ | refine B_alloc ?_ _ | refine B_setCell ?_ (by first | (simp; done) | (simp; omega)) _ | refine B_trans ?_ (by assumption))))⟩) | (simp [intOf]; omega)
    · go_wp2
      go_ret
      exact ⟨rfl, HL.out.below⟩
end Go.Proofs.Ytdmhlnjlbcapoaa
