/- The reference of watches, plainly: lists; what they know is what a watch knows. -/
import Derived.Test.YtghjhcobmbobcaaWp
import Derived.Test.YtghjhcobmbobcaaWs
import Derived.Test.YtghjhcobmbobcaaWu
import Derived.Deep.QuietTactic
import Derived.Test.YtghjhcobmbobcaaWrr
namespace Go.Proofs.Ytghjhcobmbobcaa.Wt
open Go.Proofs.Ytghjhcobmbobcaa.Mp
structure RW where
  top : Int
  first : List Int
  idle : List Int
  op : List Int
  gr : List Int
  en : List Int
def rw0 : RW := ⟨0, [], [], [], [], []⟩
def less (l : List Int) (i : Int) : List Int := l.filter (fun x => x != i)
def thereR (w : RW) (i : Int) : Bool := decide (i ∈ w.first) || (decide (i ∈ w.idle) || decide (i ∈ w.op))
def backR (w : RW) (i k : Int) : RW × Int :=
  if i ∈ w.first ∧ k = 1 then ({ w with first := less w.first i, idle := w.idle ++ [i] }, 0)
  else if i ∈ w.idle ∧ k = 2 then ({ w with idle := less w.idle i, op := w.op ++ [i] }, 0)
  else if i ∈ w.op ∧ k = 3 then (w, 0)
  else if i ∈ w.op ∧ (k = 4 ∨ k = 5) then ({ w with op := less w.op i, idle := w.idle ++ [i] }, 0)
  else (w, 8)
def frontR (w : RW) (i k : Int) : RW × Int :=
  if i ∈ w.en then (w, 5) else if k ≠ 1 ∧ k ≠ 6 ∧ k ≠ 7 then (w, 4) else if k = 1 ∧ i ∈ w.gr then (w, 6) else if k = 6 ∧ i ∉ w.gr then (w, 8)
  else if k = 1 then ({ w with gr := w.gr ++ [i] }, 0) else (w, 0)
def seeR (r : Bool) (w : RW) (o : OutV) : RW × Int :=
  if r = false then (w, 1) else if o.k = 0 then frontR w o.id o.fk
  else if o.k = 1 then (if thereR w o.id = false then (w, 5) else backR w o.id o.fk)
  else if o.k = 2 then (if o.id ≤ w.top then (w, 6) else ({ w with top := o.id, first := w.first ++ [o.id] }, 0))
  else if o.k = 3 then (if thereR w o.id = false then (w, 5) else ({ w with first := less w.first o.id, idle := less w.idle o.id, op := less w.op o.id }, 0))
  else if o.k = 4 then (if o.id ∈ w.en then (w, 5) else ({ w with en := w.en ++ [o.id] }, 0)) else (w, 0)
/-- The two know the same. -/
structure Knows (s : St) (w : RW) : Prop where
  top : w.top = s.top
  first : ∀ i, i ∈ w.first ↔ s.nx i = 1
  idle : ∀ i, i ∈ w.idle ↔ s.nx i = 2
  op : ∀ i, i ∈ w.op ↔ s.nx i = 3
  gr : ∀ i, i ∈ w.gr ↔ (s.cl i).1 = true
  en : ∀ i, i ∈ w.en ↔ (s.cl i).2 = true
  low : ∀ i, s.nx i ≠ 0 → i ≤ s.top
  n1 : w.first.Nodup
  n2 : w.idle.Nodup
  n3 : w.op.Nodup
  n4 : w.gr.Nodup
  n5 : w.en.Nodup
theorem knows0 : Knows st0 rw0 where
  top := rfl
  first := fun i => by simp [rw0, st0]
  idle := fun i => by simp [rw0, st0]
  op := fun i => by simp [rw0, st0]
  gr := fun i => by simp [rw0, st0]
  en := fun i => by simp [rw0, st0]
  low := fun i h => absurd rfl h
  n1 := List.nodup_nil
  n2 := List.nodup_nil
  n3 := List.nodup_nil
  n4 := List.nodup_nil
  n5 := List.nodup_nil
theorem mem_less (l : List Int) (i j : Int) : j ∈ less l i ↔ j ∈ l ∧ j ≠ i := by simp [less]
theorem nodup_less {l : List Int} (h : l.Nodup) (i : Int) : (less l i).Nodup := h.filter _
theorem nodup_more {l : List Int} (h : l.Nodup) {i : Int} (hi : i ∉ l) : (l ++ [i]).Nodup := by
  rw [List.nodup_append]
  exact ⟨h, by simp, fun a ha b hb e => by simp at hb; subst hb; subst e; exact hi ha⟩
theorem mem_more (l : List Int) (i j : Int) : j ∈ l ++ [i] ↔ j ∈ l ∨ j = i := by simp
theorem Knows.there {s : St} {w : RW} (h : Knows s w) (i : Int) : thereR w i = !decide (s.nx i = 0) := by
  unfold thereR
  have h1 := h.first i
  have h2 := h.idle i
  have h3 := h.op i
  generalize hx : s.nx i = x at *
  match x with
  | 0 => simp [h1, h2, h3]
  | 1 => simp [h1]
  | 2 => simp [h2]
  | 3 => simp [h3]
theorem Knows.nx {s : St} {w : RW} (h : Knows s w) {f g k : List Int} (i : Int) (a : Fin 4) (t : Int) (ht : ∀ j, (upd s.nx i a) j ≠ 0 → j ≤ t)
    (h1 : ∀ j, j ∈ f ↔ (upd s.nx i a) j = 1) (h2 : ∀ j, j ∈ g ↔ (upd s.nx i a) j = 2) (h3 : ∀ j, j ∈ k ↔ (upd s.nx i a) j = 3) (m1 : f.Nodup) (m2 : g.Nodup) (m3 : k.Nodup) :
    Knows { s with top := t, nx := upd s.nx i a } { w with top := t, first := f, idle := g, op := k } where
  top := rfl
  first := h1
  idle := h2
  op := h3
  gr := h.gr
  en := h.en
  low := ht
  n1 := m1
  n2 := m2
  n3 := m3
  n4 := h.n4
  n5 := h.n5
theorem upd_at {α : Type} (f : Int → α) (i j : Int) (a : α) : upd f i a j = if j = i then a else f j := rfl
theorem Knows.back {s : St} {w : RW} (h : Knows s w) (i k : Int) (h0 : s.nx i ≠ 0) : (backR w i k).2 = (backV s i k).2 ∧ Knows (backV s i k).1 (backR w i k).1 := by
  have h1 := h.first
  have h2 := h.idle
  have h3 := h.op
  have i1 := h1 i
  have i2 := h2 i
  have i3 := h3 i
  have hlow := h.low
  have hit := hlow i h0
  unfold backR backV
  rw [if_neg h0]
  have key : s.nx i = 1 ∨ s.nx i = 2 ∨ s.nx i = 3 := by
    generalize s.nx i = x at h0
    match x, h0 with
    | 1, _ => simp
    | 2, _ => simp
    | 3, _ => simp
  have hlow2 : ∀ a j, (upd s.nx i a) j ≠ 0 → j ≤ s.top := fun a j hj => by
    rw [upd_at] at hj
    by_cases e : j = i
    · subst e; exact hit
    · rw [if_neg e] at hj; exact hlow j hj
  have htop := h.top
  rcases key with e | e | e
  · have a1 : i ∈ w.first := i1.2 e
    have a2 : i ∉ w.idle := fun x => by rw [i2.1 x] at e; cases e
    have a3 : i ∉ w.op := fun x => by rw [i3.1 x] at e; cases e
    by_cases hk : k = 1
    · rw [if_pos ⟨a1, hk⟩, if_pos (.inl ⟨e, hk⟩)]
      refine ⟨rfl, ?_⟩
      have := h.nx (f := less w.first i) (g := w.idle ++ [i]) (k := w.op) i 2 s.top (hlow2 2)
        (fun j => by rw [mem_less, upd_at, h1]; by_cases ej : j = i <;> simp [ej])
        (fun j => by rw [mem_more, upd_at, h2]; by_cases ej : j = i <;> simp [ej])
        (fun j => by rw [upd_at, h3]; by_cases ej : j = i
                     · subst ej; simp [e]
                     · simp [ej]) (nodup_less h.n1 i) (nodup_more h.n2 a2) h.n3
      rw [← htop] at this
      have hs : ({ s with top := w.top, nx := upd s.nx i 2 } : St) = { s with nx := upd s.nx i 2 } := by rw [htop]
      rw [hs] at this
      exact this
    · rw [if_neg (fun x => hk x.2), if_neg (fun x => a2 x.1), if_neg (fun x => a3 x.1), if_neg (fun x => a3 x.1), if_neg (by rintro (x | x); exact hk x.2; rw [x.1] at e; cases e), if_neg (by rintro (x | x) <;> (rw [x.1] at e; cases e))]
      exact ⟨rfl, h⟩
  · have a1 : i ∉ w.first := fun x => by rw [i1.1 x] at e; cases e
    have a2 : i ∈ w.idle := i2.2 e
    have a3 : i ∉ w.op := fun x => by rw [i3.1 x] at e; cases e
    rw [if_neg (fun x => a1 x.1), if_neg (show ¬ ((s.nx i = 1 ∧ k = 1) ∨ (s.nx i = 3 ∧ (k = 4 ∨ k = 5))) by rintro (x | x) <;> (rw [x.1] at e; cases e))]
    by_cases hk : k = 2
    · rw [if_pos ⟨a2, hk⟩, if_pos (.inl ⟨e, hk⟩)]
      refine ⟨rfl, ?_⟩
      have := h.nx (f := w.first) (g := less w.idle i) (k := w.op ++ [i]) i 3 s.top (hlow2 3)
        (fun j => by rw [upd_at, h1]; by_cases ej : j = i
                     · subst ej; simp [e]
                     · simp [ej])
        (fun j => by rw [mem_less, upd_at, h2]; by_cases ej : j = i <;> simp [ej])
        (fun j => by rw [mem_more, upd_at, h3]; by_cases ej : j = i <;> simp [ej]) h.n1 (nodup_less h.n2 i) (nodup_more h.n3 a3)
      rw [← htop] at this
      have hs : ({ s with top := w.top, nx := upd s.nx i 3 } : St) = { s with nx := upd s.nx i 3 } := by rw [htop]
      rw [hs] at this
      exact this
    · rw [if_neg (fun x => hk x.2), if_neg (fun x => a3 x.1), if_neg (fun x => a3 x.1), if_neg (by rintro (x | x); exact hk x.2; rw [x.1] at e; cases e)]
      exact ⟨rfl, h⟩
  · have a1 : i ∉ w.first := fun x => by rw [i1.1 x] at e; cases e
    have a2 : i ∉ w.idle := fun x => by rw [i2.1 x] at e; cases e
    have a3 : i ∈ w.op := i3.2 e
    rw [if_neg (fun x => a1 x.1), if_neg (fun x => a2 x.1)]
    by_cases hk : k = 3
    · rw [if_pos ⟨a3, hk⟩, if_neg (by rintro (x | x); rw [x.1] at e; cases e; omega), if_pos (.inr ⟨e, hk⟩)]
      refine ⟨rfl, ?_⟩
      have := h.nx (f := w.first) (g := w.idle) (k := w.op) i 3 s.top (hlow2 3)
        (fun j => by rw [upd_at, h1]; by_cases ej : j = i
                     · subst ej; simp [e]
                     · simp [ej])
        (fun j => by rw [upd_at, h2]; by_cases ej : j = i
                     · subst ej; simp [e]
                     · simp [ej])
        (fun j => by rw [upd_at, h3]; by_cases ej : j = i
                     · subst ej; simp [e]
                     · simp [ej]) h.n1 h.n2 h.n3
      rw [← htop] at this
      have hs : ({ s with top := w.top, nx := upd s.nx i 3 } : St) = { s with nx := upd s.nx i 3 } := by rw [htop]
      rw [hs] at this
      exact this
    · rw [if_neg (fun x => hk x.2)]
      by_cases hk2 : k = 4 ∨ k = 5
      · rw [if_pos ⟨a3, hk2⟩, if_pos (.inr ⟨e, hk2⟩)]
        refine ⟨rfl, ?_⟩
        have := h.nx (f := w.first) (g := w.idle ++ [i]) (k := less w.op i) i 2 s.top (hlow2 2)
          (fun j => by rw [upd_at, h1]; by_cases ej : j = i
                       · subst ej; simp [e]
                       · simp [ej])
          (fun j => by rw [mem_more, upd_at, h2]; by_cases ej : j = i <;> simp [ej])
          (fun j => by rw [mem_less, upd_at, h3]; by_cases ej : j = i <;> simp [ej]) h.n1 (nodup_more h.n2 a2) (nodup_less h.n3 i)
        rw [← htop] at this
        have hs : ({ s with top := w.top, nx := upd s.nx i 2 } : St) = { s with nx := upd s.nx i 2 } := by rw [htop]
        rw [hs] at this
        exact this
      · rw [if_neg (fun x => hk2 x.2), if_neg (by rintro (x | x); rw [x.1] at e; cases e; exact hk2 x.2), if_neg (by rintro (x | x); rw [x.1] at e; cases e; exact hk x.2)]
        exact ⟨rfl, h⟩
theorem Knows.cl {s : St} {w : RW} (h : Knows s w) {g n : List Int} (i : Int) (a : Bool × Bool) (h4 : ∀ j, j ∈ g ↔ ((upd s.cl i a) j).1 = true) (h5 : ∀ j, j ∈ n ↔ ((upd s.cl i a) j).2 = true) (m4 : g.Nodup) (m5 : n.Nodup) :
    Knows { s with cl := upd s.cl i a } { w with gr := g, en := n } where
  top := h.top
  first := h.first
  idle := h.idle
  op := h.op
  gr := h4
  en := h5
  low := h.low
  n1 := h.n1
  n2 := h.n2
  n3 := h.n3
  n4 := m4
  n5 := m5
theorem Knows.see {s : St} {w : RW} (h : Knows s w) (r : Bool) (o : OutV) : (seeR r w o).2 = (seeV r s o).2 ∧ Knows (seeV r s o).1 (seeR r w o).1 := by
  unfold seeR seeV
  by_cases hr : r = false
  · rw [if_pos hr, if_pos hr]; exact ⟨rfl, h⟩
  rw [if_neg hr, if_neg hr]
  by_cases k0 : o.k = 0
  · rw [if_pos k0, if_pos k0]
    unfold frontR frontV
    have g := h.gr o.id
    have n := h.en o.id
    by_cases he : (s.cl o.id).2 = true
    · rw [if_pos (n.2 he), if_pos he]; exact ⟨rfl, h⟩
    rw [if_neg (fun x => he (n.1 x)), if_neg he]
    by_cases hk : o.fk ≠ 1 ∧ o.fk ≠ 6 ∧ o.fk ≠ 7
    · rw [if_pos hk, if_pos hk]; exact ⟨rfl, h⟩
    rw [if_neg hk, if_neg hk]
    by_cases h1 : o.fk = 1 ∧ (s.cl o.id).1 = true
    · rw [if_pos ⟨h1.1, g.2 h1.2⟩, if_pos h1]; exact ⟨rfl, h⟩
    rw [if_neg (fun x => h1 ⟨x.1, g.1 x.2⟩), if_neg h1]
    by_cases h6 : o.fk = 6 ∧ (s.cl o.id).1 = false
    · rw [if_pos ⟨h6.1, fun x => by rw [g.1 x] at h6; cases h6.2⟩, if_pos h6]; exact ⟨rfl, h⟩
    rw [if_neg (fun x => h6 ⟨x.1, by cases hc : (s.cl o.id).1 with
      | true => exact absurd (g.2 hc) x.2
      | false => rfl⟩), if_neg h6]
    by_cases e1 : o.fk = 1
    · rw [if_pos e1]
      refine ⟨rfl, ?_⟩
      have hg : o.id ∉ w.gr := fun x => h1 ⟨e1, g.1 x⟩
      refine h.cl (g := w.gr ++ [o.id]) (n := w.en) o.id _ (fun j => ?_) (fun j => ?_) (nodup_more h.n4 hg) h.n5
      · rw [mem_more, upd_at, h.gr j]; by_cases ej : j = o.id <;> simp [ej, e1]
      · rw [upd_at, h.en j]; by_cases ej : j = o.id
        · subst ej; simp
        · simp [ej]
    · rw [if_neg e1]
      refine ⟨rfl, ?_⟩
      refine h.cl (g := w.gr) (n := w.en) o.id _ (fun j => ?_) (fun j => ?_) h.n4 h.n5
      · rw [upd_at, h.gr j]; by_cases ej : j = o.id
        · subst ej; simp [e1]
        · simp [ej]
      · rw [upd_at, h.en j]; by_cases ej : j = o.id
        · subst ej; simp
        · simp [ej]
  rw [if_neg k0, if_neg k0]
  by_cases k1 : o.k = 1
  · rw [if_pos k1, if_pos k1, h.there]
    by_cases h0 : s.nx o.id = 0
    · have hb : backV s o.id o.fk = (s, 5) := by unfold backV; rw [if_pos h0]
      rw [hb, if_pos (by simp [h0])]; exact ⟨rfl, h⟩
    · rw [if_neg (by simp [h0])]
      exact h.back o.id o.fk h0
  rw [if_neg k1, if_neg k1]
  by_cases k2 : o.k = 2
  · rw [if_pos k2, if_pos k2, h.top]
    by_cases ht : o.id ≤ s.top
    · rw [if_pos ht, if_pos ht]; exact ⟨rfl, h⟩
    rw [if_neg ht, if_neg ht]
    refine ⟨rfl, ?_⟩
    have h0 : s.nx o.id = 0 := by
      rcases Decidable.em (s.nx o.id = 0) with e | e
      · exact e
      · exact absurd (h.low _ e) ht
    refine h.nx (f := w.first ++ [o.id]) (g := w.idle) (k := w.op) o.id 1 o.id (fun j hj => ?_) (fun j => ?_) (fun j => ?_) (fun j => ?_) (nodup_more h.n1 fun x => by rw [(h.first _).1 x] at h0; cases h0) h.n2 h.n3
    · rw [upd_at] at hj
      by_cases e : j = o.id
      · omega
      · rw [if_neg e] at hj; have := h.low j hj; omega
    · rw [mem_more, upd_at, h.first]; by_cases ej : j = o.id <;> simp [ej]
    · rw [upd_at, h.idle]; by_cases ej : j = o.id
      · subst ej; simp [h0]
      · simp [ej]
    · rw [upd_at, h.op]; by_cases ej : j = o.id
      · subst ej; simp [h0]
      · simp [ej]
  rw [if_neg k2, if_neg k2]
  by_cases k3 : o.k = 3
  · rw [if_pos k3, if_pos k3, h.there]
    by_cases h0 : s.nx o.id = 0
    · rw [if_pos h0, if_pos (by simp [h0])]; exact ⟨rfl, h⟩
    rw [if_neg h0, if_neg (by simp [h0])]
    refine ⟨rfl, ?_⟩
    have := h.nx (f := less w.first o.id) (g := less w.idle o.id) (k := less w.op o.id) o.id 0 s.top (fun j hj => by
        rw [upd_at] at hj
        by_cases e : j = o.id
        · rw [if_pos e] at hj; exact absurd rfl hj
        · rw [if_neg e] at hj; exact h.low j hj)
      (fun j => by rw [mem_less, upd_at, h.first]; by_cases ej : j = o.id <;> simp [ej])
      (fun j => by rw [mem_less, upd_at, h.idle]; by_cases ej : j = o.id <;> simp [ej])
      (fun j => by rw [mem_less, upd_at, h.op]; by_cases ej : j = o.id <;> simp [ej]) (nodup_less h.n1 _) (nodup_less h.n2 _) (nodup_less h.n3 _)
    have htop := h.top
    rw [← htop] at this
    have hs : ({ s with top := w.top, nx := upd s.nx o.id 0 } : St) = { s with nx := upd s.nx o.id 0 } := by rw [htop]
    rw [hs] at this
    exact this
  rw [if_neg k3, if_neg k3]
  by_cases k4 : o.k = 4
  · rw [if_pos k4, if_pos k4]
    have n := h.en o.id
    by_cases he : (s.cl o.id).2 = true
    · rw [if_pos (n.2 he), if_pos he]; exact ⟨rfl, h⟩
    rw [if_neg (fun x => he (n.1 x)), if_neg he]
    refine ⟨rfl, ?_⟩
    refine h.cl (g := w.gr) (n := w.en ++ [o.id]) o.id _ (fun j => ?_) (fun j => ?_) h.n4 (nodup_more h.n5 fun x => he (n.1 x))
    · rw [upd_at, h.gr j]; by_cases ej : j = o.id
      · subst ej; simp
      · simp [ej]
    · rw [mem_more, upd_at, h.en j]; by_cases ej : j = o.id <;> simp [ej]
  · rw [if_neg k4, if_neg k4]; exact ⟨rfl, h⟩
/-- Of how many lists the connections are: each is in one. -/
theorem Knows.conns {s : St} {w : RW} (h : Knows s w) : (w.first ++ w.idle ++ w.op).Nodup ∧ ∀ i, i ∈ w.first ++ w.idle ++ w.op ↔ s.nx i ≠ 0 := by
  constructor
  · rw [List.nodup_append, List.nodup_append]
    refine ⟨⟨h.n1, h.n2, fun a ha b hb e => ?_⟩, h.n3, fun a ha b hb e => ?_⟩
    · subst e; have h1 := (h.first a).1 ha; have h2 := (h.idle a).1 hb; rw [h1] at h2; cases h2
    · subst e
      have h3 := (h.op a).1 hb
      rcases List.mem_append.1 ha with ha | ha
      · have h1 := (h.first a).1 ha; rw [h1] at h3; cases h3
      · have h1 := (h.idle a).1 ha; rw [h1] at h3; cases h3
  · intro i
    rw [List.mem_append, List.mem_append, h.first, h.idle, h.op]
    generalize s.nx i = x
    match x with
    | 0 => simp
    | 1 => simp
    | 2 => simp
    | 3 => simp
def auditR (R : OutV → Bool) : Nat → RW → List OutV → Int × Int
  | _, _, [] => (-1, 0)
  | i, w, o :: r => if (seeR (R o) w o).2 = 0 then auditR R (i + 1) (seeR (R o) w o).1 r else (i, (seeR (R o) w o).2)
theorem Knows.audit (R : OutV → Bool) : ∀ (l : List OutV) (i : Nat) (s : St) (w : RW), Knows s w → auditR R i w l = auditFrom R i s l
  | [], _, _, _, _ => rfl
  | o :: r, i, s, w, h => by
    obtain ⟨h1, h2⟩ := h.see (R o) o
    unfold auditR auditFrom
    rw [h1]
    by_cases hz : (seeV (R o) s o).2 = 0
    · rw [if_pos hz, if_pos hz]; exact Knows.audit R r (i + 1) _ _ h2
    · rw [if_neg hz, if_neg hz]
end Go.Proofs.Ytghjhcobmbobcaa.Wt
namespace Go.Proofs.Ytghjhcobmbobcaa.Wt
open Go.RowKit Go.Proofs.Ytghjhcobmbobcaa
/-- a slice that reads as these numbers -/
def IsL (w : World) (v : Value) (l : List Int) : Prop := ∃ A c, v = .slice A l.length c ∧ Sl w 3 1 v l.length (encInts l)
theorem IsL.below {w w' : World} {v : Value} {l : List Int} (h : IsL w v l) (hb : Below w.heap.size w w') : IsL w' v l := by
  obtain ⟨A, c, e, hs⟩ := h
  exact ⟨A, c, e, hs.b hb⟩
theorem intsAt_nil (w : World) (A : Option Addr) : IntsAt w A [] := fun j x h => by simp at h
theorem ints_of_Sl {w : World} {A : Option Addr} {n c : Nat} {l : List Int} (h : Sl w 3 1 (.slice A n c) n (encInts l)) (hn : l.length = n) : IntsAt w A l := fun j x hj => by
  have hlt := (List.getElem?_eq_some_iff.1 hj).1
  obtain ⟨g, off, rfl, _, hc⟩ := h.cells (by omega)
  exact ⟨g, off, rfl, hc j _ (by unfold encInts; rw [List.getElem?_map, hj]; rfl)⟩
theorem int_info : (Try.prog.info? 3).map (fun i => (i.zero, i.size, i.bytes)) = some (some (.int .i64 0), 1, 8) := by kernel_rfl
theorem encInts_app (a b : List Int) : encInts (a ++ b) = encInts a ++ encInts b := List.map_append
theorem sl_capI {w : World} {A : Option Addr} {n c m : Nat} {xs : List Value} (h : Sl w 3 1 (.slice A n c) m xs) : n ≤ c := by
  obtain ⟨A3, c3, e, h1, _⟩ := h.slice
  cases e
  exact h1
theorem lies_newI {w w0 : World} {v v' : Value} (h : Lies w v v') (hv : ∀ g, v.ownBlock = some g → w0.heap.size ≤ g) (hs : w0.heap.size ≤ w.heap.size) : ∀ g, v'.ownBlock = some g → w0.heap.size ≤ g := fun g hg => by
  rcases h with h | ⟨g', h, h2⟩
  · exact hv g (h.symm.trans hg)
  · rw [hg] at h
    cases h
    omega
/-- append of numbers that lie somewhere, to a slice of the call's own. -/
theorem run_append_ints (w : World) (v : Value) (n : Nat) (l1 : List Int) (hs : Sl w 3 1 v n (encInts l1)) (A : Option Addr) (c : Nat) (l : List Int) (hz : IntsAt w A l) (hb : n + l.length ≤ 1000000) (ty : TypeId) :
    ∃ A' c' w', (Builtin.append_ #[38, 38] ty #[v, .slice A l.length c]).run Try.prog w = .ok (.slice A' (n + l.length) c') w' ∧ Sl w' 3 1 (.slice A' (n + l.length) c') (n + l.length) (encInts (l1 ++ l)) ∧ Only (fun g => v.ownBlock = some g) w w' ∧ Lies w v (.slice A' (n + l.length) c') := by
  obtain ⟨i0, hi, hz0, hz1, hz2⟩ := info_parts int_info
  rcases Nat.eq_zero_or_pos l.length with h0 | h0
  · have hL : l = [] := List.eq_nil_of_length_eq_zero h0
    subst hL
    obtain ⟨A1, c1, rfl, hnc, _⟩ := hs.slice
    refine ⟨A1, c1, w, ?_, by rw [List.append_nil]; exact hs, Only.refl _ _, .inl rfl⟩
    cases A1 <;> cases A <;> simp [Builtin.append_, run_underlying Try.underlying38, Builtin.lenOf, Builtin.firstCells, hnc, storeCells, loadCells, loadCellsFrom]
  · obtain ⟨x0, hx0⟩ : ∃ x, l[0]? = some x := ⟨_, List.getElem?_eq_getElem h0⟩
    obtain ⟨g, off, rfl, _⟩ := hz 0 x0 hx0
    obtain ⟨A', c', w', h1, h2, h3, h4⟩ := run_append_sl (P := Try.prog) w 38 ty 3 i0 _ 1 8 Try.underlying38 hi hz0 hz1 hz2 rfl (by decide) v n (encInts l1) hs ⟨g, off, none⟩ l.length c (encInts l) (by simp [encInts]) (fun j u hj => by
        rw [addr_add]
        unfold encInts at hj
        rw [List.getElem?_map] at hj
        cases hq : l[j]? with
        | none => rw [hq] at hj; cases hj
        | some q =>
          rw [hq] at hj
          injection hj with hj
          obtain ⟨g', off', e', hc⟩ := hz j q hq
          injection e' with e'
          injection e' with e1 e2
          subst e1 e2
          rw [← hj]
          exact hc) (fun u hu => by
        obtain ⟨q, _, rfl⟩ := List.mem_map.1 hu
        simp [Value.oneCell']) (by unfold maxLen; omega) (by omega)
    exact ⟨A', c', w', h1, by rw [encInts_app]; exact h2, h3, h4⟩
theorem wpList_append_ints {ops : Array Oper} {rest : List Oper} {o : Oper} {a : Act} {w : World} {Q : Exit → Act → World → Prop} (hgd : o.guard = none) (s x : Operand)
    (ho : o.op = .call { callee := .builtin .append, args := #[s, x], argTypes := #[38, 38] })
    (v : Value) (n : Nat) (l1 : List Int) (hs : a.eval s = v) (hsl : Sl w 3 1 v n (encInts l1)) (A : Option Addr) (c : Nat) (l : List Int) (hx : a.eval x = .slice A l.length c) (hz : IntsAt w A l) (hb : n + l.length ≤ 1000000)
    (h : ∀ A' c' w', Sl w' 3 1 (.slice A' (n + l.length) c') (n + l.length) (encInts (l1 ++ l)) → Only (fun g => v.ownBlock = some g) w w' → Lies w v (.slice A' (n + l.length) c') → wpList Try.prog ops Q rest (a.put o.dst (.slice A' (n + l.length) c')) w') : wpList Try.prog ops Q (o :: rest) a w :=
  wpList_plain hgd fun K hK => by
    obtain ⟨A', c', w', hr, h2, h3, h4⟩ := run_append_ints w v n l1 hsl A c l hz hb o.type
    unfold Oper.wp execOp
    simp only [ho, resolve, invoke, builtin, Sem.run_bind, Sem.run_pure, Result.andThen_ok, List.map_toArray, List.map_cons, List.map_nil, hs, hx, hr]
    exact hK _ _ (h A' c' w' h2 h3 h4)
theorem one_int {W : World} {g : Nat} {x : Int} (h : W.cell? ⟨g, 0, none⟩ = some (.int .i64 x)) : IntsAt W (some ⟨g, 0, none⟩) [x] := fun j y hj => by
  match j, hj with
  | 0, hj => simp at hj; subst hj; exact ⟨g, 0, rfl, h⟩
  | j + 1, hj => simp at hj
theorem has_any (w : World) (A : Option Addr) (c : Nat) (l : List Int) (i : Int) (hl : l.length ≤ 100000) (h : IntsAt w A l) :
    Calls Try.prog 28 #[.slice A l.length c, .int .i64 i] w fun e w' => e = .returned (.bool (decide (i ∈ l))) ∧ w' = w := by
  have H := Lib.hid h
  have HT := Lib.hid (fun (h : i ∈ l) => decide_eq_true (p := i ∈ l) h)
  have HF := Lib.hid (fun (h : i ∉ l) => decide_eq_false (p := i ∈ l) h)
  clear h
  generalize decide (i ∈ l) = r at *
  go_enter Try.func28, Try.ntmps28
  go_wp2_with fail
  go_loop [5] (fun s => ∃ j : Nat, j ≤ l.length ∧ s = .int .i64 j ∧ Hid (i ∉ l.take j)) (fun s => l.length - (intOf s).toNat)
  case atStart => exact ⟨0, Nat.zero_le _, rfl, Lib.hid (by simp)⟩
  case round =>
    obtain ⟨j, hj, rfl, hno⟩ := hrel
    by_cases hjm : j < l.length
    · obtain ⟨x, hx⟩ : ∃ x, l[j]? = some x := ⟨_, List.getElem?_eq_getElem hjm⟩
      obtain ⟨g, off, rfl, hc⟩ := H.out j x hx
      by_cases hxi : x = i
      · subst hxi
        have HR := Lib.hid (HT.out (List.mem_of_getElem? hx))
        have t0 : (x == x) = true := beq_self_eq_true _
        clear hx
        go_wp2_with fail
        go_ret
        exact ⟨by rw [HR.out]; rfl, rfl⟩
      · have t0 : (x == i) = false := beq_eq_false_iff_ne.2 hxi
        have HN := Lib.hid (show i ∉ l.take (j + 1) from fun hm => by
          rw [List.take_succ_eq_append_getElem hjm] at hm
          rcases List.mem_append.1 hm with hm | hm
          · exact hno.out hm
          · rw [(List.getElem?_eq_some_iff.1 hx).2] at hm
            exact hxi (List.mem_singleton.1 hm).symm)
        clear hx hxi
        go_wp2_with fail
        go_round
        case rel => exact ⟨j + 1, by omega, by push_cast; rfl, HN⟩
        case measure => simp [intOf]; omega
    · obtain rfl : j = l.length := by omega
      have HR := Lib.hid (HF.out (by have := hno.out; rwa [List.take_length] at this))
      go_wp2_with fail
      go_ret
      exact ⟨by rw [HR.out]; rfl, rfl⟩
def ListsTo (w : World) (l : List Int) (e : Ending) (w' : World) : Prop := ∃ A c, e = .returned (.slice A l.length c) ∧ Sl w' 3 1 (.slice A l.length c) l.length (encInts l) ∧ (∀ g, Value.ownBlock (.slice A l.length c) = some g → w.heap.size ≤ g) ∧ B w w'
set_option maxRecDepth 100000 in
set_option maxHeartbeats 2000000 in
theorem less_any (w : World) (A : Option Addr) (c : Nat) (l : List Int) (i : Int) (hl : l.length ≤ 100000) (h : IntsAt w A l) :
    Calls Try.prog 32 #[.slice A l.length c, .int .i64 i] w (ListsTo w (less l i)) := by
  have H := Lib.hid h
  have HB0 := Lib.hid (B_refl w)
  clear h
  go_enter Try.func32, Try.ntmps32
  go_wp2_with fail
  go_loopw [5, 6] (fun s5 s6 wr => ∃ (j n : Nat) (A2 : Option Addr) (c2 : Nat) (k : List Int), j ≤ l.length ∧ n ≤ j ∧ s6 = .int .i64 j ∧ s5 = .slice A2 n c2 ∧ Hid (k = less (l.take j) i) ∧ k.length = n ∧ Sl wr 3 1 (.slice A2 n c2) n (encInts k) ∧ (∀ g, Value.ownBlock (.slice A2 n c2) = some g → w.heap.size ≤ g) ∧ B w wr) (fun _ s _ => l.length - (intOf s).toNat)
  case atStart => exact ⟨0, 0, none, 0, [], Nat.zero_le _, Nat.le_refl _, rfl, rfl, Lib.hid rfl, rfl, Sl.nil _ _ _, fun g hg => (by cases hg), by repeat (first | with_reducible exact HB0.out | refine B_drew ?_ | refine B_drewN ?_ _)⟩
  case round =>
    obtain ⟨j, n, A2, c2, k, hj, hnj, rfl, rfl, hk, hkn, hsl, how, hr⟩ := hrel
    have BR := Lib.hid hr
    have HSL := Lib.hid hsl
    have HOW := Lib.hid how
    clear hr hsl how
    by_cases hjm : j < l.length
    · obtain ⟨x, hx⟩ : ∃ x, l[j]? = some x := ⟨_, List.getElem?_eq_getElem hjm⟩
      obtain ⟨g, off, rfl, hc⟩ := (H.out.below BR.out) j x hx
      have hxe := (List.getElem?_eq_some_iff.1 hx).2
      by_cases hxi : x = i
      · have t0 : (x != i) = false := by rw [hxi]; simp
        have HK := Lib.hid (show k = less (l.take (j + 1)) i by
          rw [hk.out, List.take_succ_eq_append_getElem hjm, hxe]
          unfold less
          rw [List.filter_append, List.filter_cons, t0]
          simp)
        clear hx hxi hxe
        go_wp2_with fail
        go_roundw
        case rel => exact ⟨j + 1, n, A2, c2, k, by omega, by omega, by push_cast; rfl, rfl, HK, hkn, HSL.out, HOW.out, BR.out⟩
        case measure => simp [intOf]; omega
      · have t0 : (x != i) = true := by simpa using hxi
        have HK := Lib.hid (show k ++ [x] = less (l.take (j + 1)) i by
          rw [hk.out, List.take_succ_eq_append_getElem hjm, hxe]
          unfold less
          rw [List.filter_append, List.filter_cons, t0]
          simp)
        clear hx hxi hxe
        go_wp2_with (at_builtin; refine wpList_append_ints (by rfl) (.tmp 19) (.tmp 24) (by rfl) (.slice A2 n c2) n k (by rfl) ?hs (some ⟨wr.heap.size, 0, none⟩) 1 [x] (by rfl) ?hz ?hb ?_)
        case hs => repeat (first | with_reducible exact HSL.out | refine Sl.alloc ?_ _)
        case hz => exact one_int (by simp)
        case hb => simp only [List.length_singleton]; omega
        intro A3 c3 w3 hs3 ho3 hl3
        have HS3 := Lib.hid (show Sl w3 3 1 (.slice A3 (n + 1) c3) (n + 1) (encInts (k ++ [x])) from hs3)
        have B3 := Lib.hid (show B w w3 from B_only (B_alloc BR.out _) ho3 HOW.out)
        have HO3 := Lib.hid (lies_newI hl3 HOW.out (B_alloc BR.out _).size)
        clear hs3 ho3 hl3
        go_wp2_with fail
        go_roundw
        case rel => exact ⟨j + 1, n + 1, A3, c3, k ++ [x], by omega, by omega, by push_cast; rfl, rfl, HK, by simp [hkn], HS3.out, HO3.out, B3.out⟩
        case measure => simp [intOf]; omega
    · obtain rfl : j = l.length := by omega
      have HK := Lib.hid (show less l i = k by rw [hk.out, List.take_length])
      subst hkn
      clear hk
      go_wp2_with fail
      go_ret
      rw [HK.out]
      exact ⟨A2, c2, rfl, HSL.out, HOW.out, BR.out⟩
set_option maxRecDepth 100000 in
set_option maxHeartbeats 2000000 in
theorem more_any (w : World) (A : Option Addr) (c : Nat) (l : List Int) (i : Int) (hl : l.length ≤ 100000) (h : IntsAt w A l) :
    Calls Try.prog 30 #[.slice A l.length c, .int .i64 i] w (ListsTo w (l ++ [i])) := by
  have H := Lib.hid h
  have HB0 := Lib.hid (B_refl w)
  clear h
  go_enter Try.func30, Try.ntmps30
  go_wp2_with (at_builtin; refine wpList_append_ints (by rfl) (.tmp 6) (.tmp 7) (by rfl) (.slice none 0 0) 0 [] (by rfl) ?hs A c l (by rfl) ?hz ?hb ?_)
  case hs => exact Sl.nil _ _ _
  case hz => exact H.out
  case hb => omega
  intro A1 c1 w1 hs1 ho1 hl1
  have HS1 := Lib.hid (show Sl w1 3 1 (.slice A1 l.length c1) l.length (encInts l) by simpa using hs1)
  have B1 := Lib.hid (show B w w1 from B_only HB0.out ho1 (by intro k hk; cases hk))
  have HO1 := Lib.hid (lies_newI hl1 (w0 := w) (by intro k hk; cases hk) (Nat.le_refl _))
  clear hs1 ho1 hl1
  go_wp2_with (at_builtin; refine wpList_append_ints (by rfl) (.tmp 9) (.tmp 11) (by rfl) (.slice A1 l.length c1) l.length l (by rfl) ?hs (some ⟨w1.heap.size, 0, none⟩) 1 [i] (by rfl) ?hz ?hb ?_)
  case hs => repeat (first | with_reducible exact HS1.out | refine Sl.alloc ?_ _)
  case hz => exact one_int (by simp)
  case hb => simp only [List.length_singleton]; omega
  intro A2 c2 w2 hs2 ho2 hl2
  have HI := Lib.hid (show Sl w2 3 1 (.slice A2 (l ++ [i]).length c2) (l ++ [i]).length (encInts (l ++ [i])) by rw [List.length_append]; exact hs2)
  have B2 := Lib.hid (show B w w2 from B_only (B_alloc B1.out _) ho2 HO1.out)
  have HO2 := Lib.hid (lies_newI hl2 HO1.out (B_alloc B1.out _).size)
  clear hs2 ho2 hl2
  go_wp2_with fail
  go_ret
  exact ⟨A2, c2, by simp, HI.out, fun g hg => HO2.out g (by cases A2 with
    | none => cases hg
    | some a => simpa [Value.ownBlock] using hg), B2.out⟩
end Go.Proofs.Ytghjhcobmbobcaa.Wt
namespace Go.Proofs.Ytghjhcobmbobcaa.Wt
open Go.RowKit Go.Proofs.Ytghjhcobmbobcaa
theorem has_v (w : World) (v : Value) (l : List Int) (i : Int) (hl : l.length ≤ 100000) (h : IsL w v l) :
    Calls Try.prog 28 #[v, .int .i64 i] w fun e w' => e = .returned (.bool (decide (i ∈ l))) ∧ w' = w := by
  obtain ⟨A, c, rfl, hs⟩ := h
  exact has_any w A c l i hl (ints_of_Sl hs rfl)
theorem IsL.far {w : World} {A : Option Addr} {c n : Nat} {l : List Int} (h : IsL w (.slice A n c) l) {p : Addr} (hp : ∀ g, Value.ownBlock (.slice A n c) = some g → g ≠ p.block) (u : Value) : IsL (w.setCell p u) (.slice A n c) l := by
  obtain ⟨A', c', e, hs⟩ := h
  exact ⟨A', c', e, hs.far (fun hg => hp _ hg rfl) u⟩
theorem IsL.far_t {w : World} {v : Value} {l : List Int} {g : Nat} {cs : Array Value} (h : IsL w v l) (hb : Blk w g 42 cs) (i : Nat) (u : Value) : IsL (w.setCell ⟨g, i, none⟩ u) v l := by
  obtain ⟨A', c', e, hs⟩ := h
  exact ⟨A', c', e, hs.far (hs.ne_blk hb (by decide)) u⟩
def ToL (w : World) (l : List Int) (e : Ending) (w' : World) : Prop := ∃ A c n, e = .returned (.slice A n c) ∧ IsL w' (.slice A n c) l ∧ (∀ g, Value.ownBlock (.slice A n c) = some g → w.heap.size ≤ g) ∧ B w w'
theorem less_v (w : World) (v : Value) (l : List Int) (i : Int) (hl : l.length ≤ 100000) (h : IsL w v l) :
    Calls Try.prog 32 #[v, .int .i64 i] w (ToL w (less l i)) := by
  obtain ⟨A, c, rfl, hs⟩ := h
  exact (less_any w A c l i hl (ints_of_Sl hs rfl)).mono fun e w' ⟨A', c', he, h1, h4, h3⟩ => ⟨A', c', _, he, ⟨A', c', rfl, h1⟩, h4, h3⟩
theorem more_v (w : World) (v : Value) (l : List Int) (i : Int) (hl : l.length ≤ 100000) (h : IsL w v l) :
    Calls Try.prog 30 #[v, .int .i64 i] w (ToL w (l ++ [i])) := by
  obtain ⟨A, c, rfl, hs⟩ := h
  exact (more_any w A c l i hl (ints_of_Sl hs rfl)).mono fun e w' ⟨A', c', he, h1, h4, h3⟩ => ⟨A', c', _, he, ⟨A', c', rfl, h1⟩, h4, h3⟩
/-- a reference watch's six cells -/
structure RWV (w : World) (v1 v2 v3 v4 v5 : Value) (r : RW) : Prop where
  h1 : IsL w v1 r.first
  h2 : IsL w v2 r.idle
  h3 : IsL w v3 r.op
  h4 : IsL w v4 r.gr
  h5 : IsL w v5 r.en
theorem RWV.below {w w' : World} {v1 v2 v3 v4 v5 : Value} {r : RW} (h : RWV w v1 v2 v3 v4 v5 r) (hb : Below w.heap.size w w') : RWV w' v1 v2 v3 v4 v5 r :=
  ⟨h.h1.below hb, h.h2.below hb, h.h3.below hb, h.h4.below hb, h.h5.below hb⟩
/-- how long the lists are -/
structure Few (r : RW) (n : Nat) : Prop where
  l1 : r.first.length ≤ n
  l2 : r.idle.length ≤ n
  l3 : r.op.length ≤ n
  l4 : r.gr.length ≤ n
  l5 : r.en.length ≤ n
theorem there_any (w : World) (top i : Int) (v1 v2 v3 v4 v5 : Value) (r : RW) (hf : Few r 1000) (h : RWV w v1 v2 v3 v4 v5 r) :
    Calls Try.prog 29 #[.agg #[.int .i64 top, v1, v2, v3, v4, v5], .int .i64 i] w fun e w' => e = .returned (.bool (thereR r i)) ∧ B w w' := by
  have HB := Lib.hid (B_alloc (B_refl w) (.cells #[.int .i64 top, v1, v2, v3, v4, v5] 42))
  have h' := h.below HB.out
  have H1 := Lib.hid (has_v _ v1 r.first i (by have := hf.l1; omega) h'.h1)
  have H2 := Lib.hid (has_v _ v2 r.idle i (by have := hf.l2; omega) h'.h2)
  have H3 := Lib.hid (has_v _ v3 r.op i (by have := hf.l3; omega) h'.h3)
  unfold thereR
  clear h h' hf
  generalize decide (i ∈ r.first) = q1 at *
  generalize decide (i ∈ r.idle) = q2 at *
  generalize decide (i ∈ r.op) = q3 at *
  cases q1
  · cases q2
    · go_enter Try.func29, Try.ntmps29
      go_wp2_with fail
      refine H1.out.mono ?_
      rintro e w1 ⟨rfl, rfl⟩
      go_wp2_with fail
      refine H2.out.mono ?_
      rintro e w1 ⟨rfl, rfl⟩
      go_wp2_with fail
      refine H3.out.mono ?_
      rintro e w1 ⟨rfl, rfl⟩
      go_wp2_with fail
      go_ret
      exact ⟨rfl, HB.out⟩
    · go_enter Try.func29, Try.ntmps29
      go_wp2_with fail
      refine H1.out.mono ?_
      rintro e w1 ⟨rfl, rfl⟩
      go_wp2_with fail
      refine H2.out.mono ?_
      rintro e w1 ⟨rfl, rfl⟩
      go_wp2_with fail
      go_ret
      exact ⟨rfl, HB.out⟩
  · go_enter Try.func29, Try.ntmps29
    go_wp2_with fail
    refine H1.out.mono ?_
    rintro e w1 ⟨rfl, rfl⟩
    go_wp2_with fail
    go_ret
    exact ⟨rfl, HB.out⟩
/-- what See and back answer -/
def SeePost (w : World) (p : RW × Int) (e : Ending) (w' : World) : Prop := ∃ v1 v2 v3 v4 v5, e = .returned (.tuple #[.agg #[.int .i64 p.1.top, v1, v2, v3, v4, v5], .int .i64 p.2]) ∧ RWV w' v1 v2 v3 v4 v5 p.1 ∧ B w w'
theorem back_end {tmps : Array Value} {W : World} {b : Nat} {k c : Int} {v1 v2 v3 v4 v5 : Value} {Q : Ending → World → Prop} (h2 : tmps[6]? = some (.pointer (some ⟨b, 0, none⟩))) (h3 : tmps[7]? = some (.int .i64 c))
    (hC : Blk W b 42 #[.int .i64 k, v1, v2, v3, v4, v5]) (hQ : Q (.returned (.tuple #[.agg #[.int .i64 k, v1, v2, v3, v4, v5], .int .i64 c])) W) :
    bodyPost Try.prog Try.f31 Q .ret { tmps := tmps, defers := [] } W := by
  have c0 := hC.cell 0
  have c1 := hC.cell 1
  have c2 := hC.cell 2
  have c3 := hC.cell 3
  have c4 := hC.cell 4
  have c5 := hC.cell 5
  simp at c0 c1 c2 c3 c4 c5
  refine bodyPost_ret (v := .tuple #[.agg #[.int .i64 k, v1, v2, v3, v4, v5], .int .i64 c]) ?_ rfl hQ
  simp [results, Try.results31, h2, h3, asAddr, c0, c1, c2, c3, c4, c5, go_sem]
set_option maxRecDepth 100000 in
set_option maxHeartbeats 4000000 in
theorem back_fff (w : World) (i k : Int) (v1 v2 v3 v4 v5 : Value) (r : RW) (hf : Few r 1000) (h : RWV w v1 v2 v3 v4 v5 r) (q1 : decide (i ∈ r.first) = false) (q2 : decide (i ∈ r.idle) = false) (q3 : decide (i ∈ r.op) = false) :
    Calls Try.prog 31 #[.agg #[.int .i64 r.top, v1, v2, v3, v4, v5], .int .i64 i, .int .i64 k] w (SeePost w (r, 8)) := by
  have H1 := Lib.hid (fun W (hb : B w W) => has_v W v1 r.first i (by have := hf.l1; omega) (h.h1.below hb))
  have H2 := Lib.hid (fun W (hb : B w W) => has_v W v2 r.idle i (by have := hf.l2; omega) (h.h2.below hb))
  have H3 := Lib.hid (fun W (hb : B w W) => has_v W v3 r.op i (by have := hf.l3; omega) (h.h3.below hb))
  rw [q1] at H1
  rw [q2] at H2
  rw [q3] at H3
  obtain ⟨top, htop⟩ : ∃ top, r.top = top := ⟨_, rfl⟩
  have HH := Lib.hid h
  obtain ⟨⟨A1, c1, rfl, -⟩, ⟨A2, c2, rfl, -⟩, ⟨A3, c3, rfl, -⟩, ⟨A4, c4, rfl, -⟩, ⟨A5, c5, rfl, -⟩⟩ := h
  have HFIN := Lib.hid (show ∀ W, B w W → SeePost w (r, 8) (.returned (.tuple #[.agg #[.int .i64 top, (.slice A1 r.first.length c1), (.slice A2 r.idle.length c2), (.slice A3 r.op.length c3), (.slice A4 r.gr.length c4), (.slice A5 r.en.length c5)], .int .i64 8])) W from fun W hb => ⟨(.slice A1 r.first.length c1), (.slice A2 r.idle.length c2), (.slice A3 r.op.length c3), (.slice A4 r.gr.length c4), (.slice A5 r.en.length c5), by rw [htop], HH.out.below hb, hb⟩)
  rw [htop]
  clear htop hf q1 q2 q3
  have HB0 := Lib.hid (B_alloc (B_alloc (B_refl w) (.cells #[.int .i64 top, (.slice A1 r.first.length c1), (.slice A2 r.idle.length c2), (.slice A3 r.op.length c3), (.slice A4 r.gr.length c4), (.slice A5 r.en.length c5)] 42)) (.cells #[.int .i64 0, .slice none 0 0, .slice none 0 0, .slice none 0 0, .slice none 0 0, .slice none 0 0] 42))
  have HW0 := Lib.hid (Blk.alloc (Blk.new w 42 #[.int .i64 top, (.slice A1 r.first.length c1), (.slice A2 r.idle.length c2), (.slice A3 r.op.length c3), (.slice A4 r.gr.length c4), (.slice A5 r.en.length c5)]) (.cells #[.int .i64 0, .slice none 0 0, .slice none 0 0, .slice none 0 0, .slice none 0 0, .slice none 0 0] 42))
  have HR0 := Lib.hid (show Blk ((w.alloc (.cells #[.int .i64 top, (.slice A1 r.first.length c1), (.slice A2 r.idle.length c2), (.slice A3 r.op.length c3), (.slice A4 r.gr.length c4), (.slice A5 r.en.length c5)] 42)).alloc (.cells #[.int .i64 0, .slice none 0 0, .slice none 0 0, .slice none 0 0, .slice none 0 0, .slice none 0 0] 42)) (w.heap.size + 1) 42 #[.int .i64 0, .slice none 0 0, .slice none 0 0, .slice none 0 0, .slice none 0 0, .slice none 0 0] from heap_at_new _ (by simp))
  have HRF := Lib.hid (show Blk ((w.alloc (.cells #[.int .i64 top, (.slice A1 r.first.length c1), (.slice A2 r.idle.length c2), (.slice A3 r.op.length c3), (.slice A4 r.gr.length c4), (.slice A5 r.en.length c5)] 42)).alloc (.cells #[.int .i64 top, (.slice A1 r.first.length c1), (.slice A2 r.idle.length c2), (.slice A3 r.op.length c3), (.slice A4 r.gr.length c4), (.slice A5 r.en.length c5)] 42)) (w.heap.size + 1) 42 #[.int .i64 top, (.slice A1 r.first.length c1), (.slice A2 r.idle.length c2), (.slice A3 r.op.length c3), (.slice A4 r.gr.length c4), (.slice A5 r.en.length c5)] from heap_at_new _ (by simp))
  have HBF := Lib.hid (B_alloc (B_alloc (B_refl w) (.cells #[.int .i64 top, (.slice A1 r.first.length c1), (.slice A2 r.idle.length c2), (.slice A3 r.op.length c3), (.slice A4 r.gr.length c4), (.slice A5 r.en.length c5)] 42)) (.cells #[.int .i64 top, (.slice A1 r.first.length c1), (.slice A2 r.idle.length c2), (.slice A3 r.op.length c3), (.slice A4 r.gr.length c4), (.slice A5 r.en.length c5)] 42))
  go_enter Try.func31, Try.ntmps31
  go_wp2_with fail
  go_quiet (first | (go_at_call 28; with_reducible exact Calls.quiet_of_same (H1.out _ (by (repeat (first | assumption | exact B_refl _ | refine B_drewN ?_ _ | refine B_drew ?_ | refine B_alloc ?_ _ | refine B_setCell ?_ (by first | (simp; done) | (simp; omega)) _ | refine B_trans ?_ (by assumption)))))) | (go_at_call 28; with_reducible exact Calls.quiet_of_same (H2.out _ (by (repeat (first | assumption | exact B_refl _ | refine B_drewN ?_ _ | refine B_drew ?_ | refine B_alloc ?_ _ | refine B_setCell ?_ (by first | (simp; done) | (simp; omega)) _ | refine B_trans ?_ (by assumption)))))) | (go_at_call 28; with_reducible exact Calls.quiet_of_same (H3.out _ (by (repeat (first | assumption | exact B_refl _ | refine B_drewN ?_ _ | refine B_drew ?_ | refine B_alloc ?_ _ | refine B_setCell ?_ (by first | (simp; done) | (simp; omega)) _ | refine B_trans ?_ (by assumption)))))))
  all_goals
    go_wp2_with fail
    refine back_end (by rfl) (by rfl) (show Blk _ (w.heap.size + 1) 42 #[.int .i64 top, (.slice A1 r.first.length c1), (.slice A2 r.idle.length c2), (.slice A3 r.op.length c3), (.slice A4 r.gr.length c4), (.slice A5 r.en.length c5)] from (((((((HR0.out.drewN _).set_ 0 _).set_ 1 _).set_ 2 _).set_ 3 _).set_ 4 _).set_ 5 _)) ?_
    exact HFIN.out _ (by repeat (first | with_reducible exact HB0.out | refine B_setCell ?_ (by simp) _ | refine B_drewN ?_ _ | refine B_drew ?_))
set_option maxRecDepth 100000 in
set_option maxHeartbeats 4000000 in
theorem back_tff (w : World) (i k : Int) (v1 v2 v3 v4 v5 : Value) (r : RW) (hf : Few r 1000) (h : RWV w v1 v2 v3 v4 v5 r) (q1 : decide (i ∈ r.first) = true) (q2 : decide (i ∈ r.idle) = false) (q3 : decide (i ∈ r.op) = false) (hk : (k == 1) = false) :
    Calls Try.prog 31 #[.agg #[.int .i64 r.top, v1, v2, v3, v4, v5], .int .i64 i, .int .i64 k] w (SeePost w (r, 8)) := by
  have H1 := Lib.hid (fun W (hb : B w W) => has_v W v1 r.first i (by have := hf.l1; omega) (h.h1.below hb))
  have H2 := Lib.hid (fun W (hb : B w W) => has_v W v2 r.idle i (by have := hf.l2; omega) (h.h2.below hb))
  have H3 := Lib.hid (fun W (hb : B w W) => has_v W v3 r.op i (by have := hf.l3; omega) (h.h3.below hb))
  rw [q1] at H1
  rw [q2] at H2
  rw [q3] at H3
  obtain ⟨top, htop⟩ : ∃ top, r.top = top := ⟨_, rfl⟩
  have HH := Lib.hid h
  obtain ⟨⟨A1, c1, rfl, -⟩, ⟨A2, c2, rfl, -⟩, ⟨A3, c3, rfl, -⟩, ⟨A4, c4, rfl, -⟩, ⟨A5, c5, rfl, -⟩⟩ := h
  have HFIN := Lib.hid (show ∀ W, B w W → SeePost w (r, 8) (.returned (.tuple #[.agg #[.int .i64 top, (.slice A1 r.first.length c1), (.slice A2 r.idle.length c2), (.slice A3 r.op.length c3), (.slice A4 r.gr.length c4), (.slice A5 r.en.length c5)], .int .i64 8])) W from fun W hb => ⟨(.slice A1 r.first.length c1), (.slice A2 r.idle.length c2), (.slice A3 r.op.length c3), (.slice A4 r.gr.length c4), (.slice A5 r.en.length c5), by rw [htop], HH.out.below hb, hb⟩)
  rw [htop]
  clear htop hf q1 q2 q3
  have HB0 := Lib.hid (B_alloc (B_alloc (B_refl w) (.cells #[.int .i64 top, (.slice A1 r.first.length c1), (.slice A2 r.idle.length c2), (.slice A3 r.op.length c3), (.slice A4 r.gr.length c4), (.slice A5 r.en.length c5)] 42)) (.cells #[.int .i64 0, .slice none 0 0, .slice none 0 0, .slice none 0 0, .slice none 0 0, .slice none 0 0] 42))
  have HW0 := Lib.hid (Blk.alloc (Blk.new w 42 #[.int .i64 top, (.slice A1 r.first.length c1), (.slice A2 r.idle.length c2), (.slice A3 r.op.length c3), (.slice A4 r.gr.length c4), (.slice A5 r.en.length c5)]) (.cells #[.int .i64 0, .slice none 0 0, .slice none 0 0, .slice none 0 0, .slice none 0 0, .slice none 0 0] 42))
  have HR0 := Lib.hid (show Blk ((w.alloc (.cells #[.int .i64 top, (.slice A1 r.first.length c1), (.slice A2 r.idle.length c2), (.slice A3 r.op.length c3), (.slice A4 r.gr.length c4), (.slice A5 r.en.length c5)] 42)).alloc (.cells #[.int .i64 0, .slice none 0 0, .slice none 0 0, .slice none 0 0, .slice none 0 0, .slice none 0 0] 42)) (w.heap.size + 1) 42 #[.int .i64 0, .slice none 0 0, .slice none 0 0, .slice none 0 0, .slice none 0 0, .slice none 0 0] from heap_at_new _ (by simp))
  have HRF := Lib.hid (show Blk ((w.alloc (.cells #[.int .i64 top, (.slice A1 r.first.length c1), (.slice A2 r.idle.length c2), (.slice A3 r.op.length c3), (.slice A4 r.gr.length c4), (.slice A5 r.en.length c5)] 42)).alloc (.cells #[.int .i64 top, (.slice A1 r.first.length c1), (.slice A2 r.idle.length c2), (.slice A3 r.op.length c3), (.slice A4 r.gr.length c4), (.slice A5 r.en.length c5)] 42)) (w.heap.size + 1) 42 #[.int .i64 top, (.slice A1 r.first.length c1), (.slice A2 r.idle.length c2), (.slice A3 r.op.length c3), (.slice A4 r.gr.length c4), (.slice A5 r.en.length c5)] from heap_at_new _ (by simp))
  have HBF := Lib.hid (B_alloc (B_alloc (B_refl w) (.cells #[.int .i64 top, (.slice A1 r.first.length c1), (.slice A2 r.idle.length c2), (.slice A3 r.op.length c3), (.slice A4 r.gr.length c4), (.slice A5 r.en.length c5)] 42)) (.cells #[.int .i64 top, (.slice A1 r.first.length c1), (.slice A2 r.idle.length c2), (.slice A3 r.op.length c3), (.slice A4 r.gr.length c4), (.slice A5 r.en.length c5)] 42))
  go_enter Try.func31, Try.ntmps31
  go_wp2_with fail
  go_quiet (first | (go_at_call 28; with_reducible exact Calls.quiet_of_same (H1.out _ (by (repeat (first | assumption | exact B_refl _ | refine B_drewN ?_ _ | refine B_drew ?_ | refine B_alloc ?_ _ | refine B_setCell ?_ (by first | (simp; done) | (simp; omega)) _ | refine B_trans ?_ (by assumption)))))) | (go_at_call 28; with_reducible exact Calls.quiet_of_same (H2.out _ (by (repeat (first | assumption | exact B_refl _ | refine B_drewN ?_ _ | refine B_drew ?_ | refine B_alloc ?_ _ | refine B_setCell ?_ (by first | (simp; done) | (simp; omega)) _ | refine B_trans ?_ (by assumption)))))) | (go_at_call 28; with_reducible exact Calls.quiet_of_same (H3.out _ (by (repeat (first | assumption | exact B_refl _ | refine B_drewN ?_ _ | refine B_drew ?_ | refine B_alloc ?_ _ | refine B_setCell ?_ (by first | (simp; done) | (simp; omega)) _ | refine B_trans ?_ (by assumption)))))))
  all_goals
    go_wp2_with fail
    refine back_end (by rfl) (by rfl) (show Blk _ (w.heap.size + 1) 42 #[.int .i64 top, (.slice A1 r.first.length c1), (.slice A2 r.idle.length c2), (.slice A3 r.op.length c3), (.slice A4 r.gr.length c4), (.slice A5 r.en.length c5)] from (((((((HR0.out.drewN _).set_ 0 _).set_ 1 _).set_ 2 _).set_ 3 _).set_ 4 _).set_ 5 _)) ?_
    exact HFIN.out _ (by repeat (first | with_reducible exact HB0.out | refine B_setCell ?_ (by simp) _ | refine B_drewN ?_ _ | refine B_drew ?_))
set_option maxRecDepth 100000 in
set_option maxHeartbeats 4000000 in
theorem back_ftf (w : World) (i k : Int) (v1 v2 v3 v4 v5 : Value) (r : RW) (hf : Few r 1000) (h : RWV w v1 v2 v3 v4 v5 r) (q1 : decide (i ∈ r.first) = false) (q2 : decide (i ∈ r.idle) = true) (q3 : decide (i ∈ r.op) = false) (hk : (k == 2) = false) :
    Calls Try.prog 31 #[.agg #[.int .i64 r.top, v1, v2, v3, v4, v5], .int .i64 i, .int .i64 k] w (SeePost w (r, 8)) := by
  have H1 := Lib.hid (fun W (hb : B w W) => has_v W v1 r.first i (by have := hf.l1; omega) (h.h1.below hb))
  have H2 := Lib.hid (fun W (hb : B w W) => has_v W v2 r.idle i (by have := hf.l2; omega) (h.h2.below hb))
  have H3 := Lib.hid (fun W (hb : B w W) => has_v W v3 r.op i (by have := hf.l3; omega) (h.h3.below hb))
  rw [q1] at H1
  rw [q2] at H2
  rw [q3] at H3
  obtain ⟨top, htop⟩ : ∃ top, r.top = top := ⟨_, rfl⟩
  have HH := Lib.hid h
  obtain ⟨⟨A1, c1, rfl, -⟩, ⟨A2, c2, rfl, -⟩, ⟨A3, c3, rfl, -⟩, ⟨A4, c4, rfl, -⟩, ⟨A5, c5, rfl, -⟩⟩ := h
  have HFIN := Lib.hid (show ∀ W, B w W → SeePost w (r, 8) (.returned (.tuple #[.agg #[.int .i64 top, (.slice A1 r.first.length c1), (.slice A2 r.idle.length c2), (.slice A3 r.op.length c3), (.slice A4 r.gr.length c4), (.slice A5 r.en.length c5)], .int .i64 8])) W from fun W hb => ⟨(.slice A1 r.first.length c1), (.slice A2 r.idle.length c2), (.slice A3 r.op.length c3), (.slice A4 r.gr.length c4), (.slice A5 r.en.length c5), by rw [htop], HH.out.below hb, hb⟩)
  rw [htop]
  clear htop hf q1 q2 q3
  have HB0 := Lib.hid (B_alloc (B_alloc (B_refl w) (.cells #[.int .i64 top, (.slice A1 r.first.length c1), (.slice A2 r.idle.length c2), (.slice A3 r.op.length c3), (.slice A4 r.gr.length c4), (.slice A5 r.en.length c5)] 42)) (.cells #[.int .i64 0, .slice none 0 0, .slice none 0 0, .slice none 0 0, .slice none 0 0, .slice none 0 0] 42))
  have HW0 := Lib.hid (Blk.alloc (Blk.new w 42 #[.int .i64 top, (.slice A1 r.first.length c1), (.slice A2 r.idle.length c2), (.slice A3 r.op.length c3), (.slice A4 r.gr.length c4), (.slice A5 r.en.length c5)]) (.cells #[.int .i64 0, .slice none 0 0, .slice none 0 0, .slice none 0 0, .slice none 0 0, .slice none 0 0] 42))
  have HR0 := Lib.hid (show Blk ((w.alloc (.cells #[.int .i64 top, (.slice A1 r.first.length c1), (.slice A2 r.idle.length c2), (.slice A3 r.op.length c3), (.slice A4 r.gr.length c4), (.slice A5 r.en.length c5)] 42)).alloc (.cells #[.int .i64 0, .slice none 0 0, .slice none 0 0, .slice none 0 0, .slice none 0 0, .slice none 0 0] 42)) (w.heap.size + 1) 42 #[.int .i64 0, .slice none 0 0, .slice none 0 0, .slice none 0 0, .slice none 0 0, .slice none 0 0] from heap_at_new _ (by simp))
  have HRF := Lib.hid (show Blk ((w.alloc (.cells #[.int .i64 top, (.slice A1 r.first.length c1), (.slice A2 r.idle.length c2), (.slice A3 r.op.length c3), (.slice A4 r.gr.length c4), (.slice A5 r.en.length c5)] 42)).alloc (.cells #[.int .i64 top, (.slice A1 r.first.length c1), (.slice A2 r.idle.length c2), (.slice A3 r.op.length c3), (.slice A4 r.gr.length c4), (.slice A5 r.en.length c5)] 42)) (w.heap.size + 1) 42 #[.int .i64 top, (.slice A1 r.first.length c1), (.slice A2 r.idle.length c2), (.slice A3 r.op.length c3), (.slice A4 r.gr.length c4), (.slice A5 r.en.length c5)] from heap_at_new _ (by simp))
  have HBF := Lib.hid (B_alloc (B_alloc (B_refl w) (.cells #[.int .i64 top, (.slice A1 r.first.length c1), (.slice A2 r.idle.length c2), (.slice A3 r.op.length c3), (.slice A4 r.gr.length c4), (.slice A5 r.en.length c5)] 42)) (.cells #[.int .i64 top, (.slice A1 r.first.length c1), (.slice A2 r.idle.length c2), (.slice A3 r.op.length c3), (.slice A4 r.gr.length c4), (.slice A5 r.en.length c5)] 42))
  go_enter Try.func31, Try.ntmps31
  go_wp2_with fail
  go_quiet (first | (go_at_call 28; with_reducible exact Calls.quiet_of_same (H1.out _ (by (repeat (first | assumption | exact B_refl _ | refine B_drewN ?_ _ | refine B_drew ?_ | refine B_alloc ?_ _ | refine B_setCell ?_ (by first | (simp; done) | (simp; omega)) _ | refine B_trans ?_ (by assumption)))))) | (go_at_call 28; with_reducible exact Calls.quiet_of_same (H2.out _ (by (repeat (first | assumption | exact B_refl _ | refine B_drewN ?_ _ | refine B_drew ?_ | refine B_alloc ?_ _ | refine B_setCell ?_ (by first | (simp; done) | (simp; omega)) _ | refine B_trans ?_ (by assumption)))))) | (go_at_call 28; with_reducible exact Calls.quiet_of_same (H3.out _ (by (repeat (first | assumption | exact B_refl _ | refine B_drewN ?_ _ | refine B_drew ?_ | refine B_alloc ?_ _ | refine B_setCell ?_ (by first | (simp; done) | (simp; omega)) _ | refine B_trans ?_ (by assumption)))))))
  all_goals
    go_wp2_with fail
    refine back_end (by rfl) (by rfl) (show Blk _ (w.heap.size + 1) 42 #[.int .i64 top, (.slice A1 r.first.length c1), (.slice A2 r.idle.length c2), (.slice A3 r.op.length c3), (.slice A4 r.gr.length c4), (.slice A5 r.en.length c5)] from (((((((HR0.out.drewN _).set_ 0 _).set_ 1 _).set_ 2 _).set_ 3 _).set_ 4 _).set_ 5 _)) ?_
    exact HFIN.out _ (by repeat (first | with_reducible exact HB0.out | refine B_setCell ?_ (by simp) _ | refine B_drewN ?_ _ | refine B_drew ?_))
set_option maxRecDepth 100000 in
set_option maxHeartbeats 4000000 in
theorem back_fft (w : World) (i k : Int) (v1 v2 v3 v4 v5 : Value) (r : RW) (hf : Few r 1000) (h : RWV w v1 v2 v3 v4 v5 r) (q1 : decide (i ∈ r.first) = false) (q2 : decide (i ∈ r.idle) = false) (q3 : decide (i ∈ r.op) = true) (hk : (k == 3) = false) (hk4 : (k == 4) = false) (hk5 : (k == 5) = false) :
    Calls Try.prog 31 #[.agg #[.int .i64 r.top, v1, v2, v3, v4, v5], .int .i64 i, .int .i64 k] w (SeePost w (r, 8)) := by
  have H1 := Lib.hid (fun W (hb : B w W) => has_v W v1 r.first i (by have := hf.l1; omega) (h.h1.below hb))
  have H2 := Lib.hid (fun W (hb : B w W) => has_v W v2 r.idle i (by have := hf.l2; omega) (h.h2.below hb))
  have H3 := Lib.hid (fun W (hb : B w W) => has_v W v3 r.op i (by have := hf.l3; omega) (h.h3.below hb))
  rw [q1] at H1
  rw [q2] at H2
  rw [q3] at H3
  obtain ⟨top, htop⟩ : ∃ top, r.top = top := ⟨_, rfl⟩
  have HH := Lib.hid h
  obtain ⟨⟨A1, c1, rfl, -⟩, ⟨A2, c2, rfl, -⟩, ⟨A3, c3, rfl, -⟩, ⟨A4, c4, rfl, -⟩, ⟨A5, c5, rfl, -⟩⟩ := h
  have HFIN := Lib.hid (show ∀ W, B w W → SeePost w (r, 8) (.returned (.tuple #[.agg #[.int .i64 top, (.slice A1 r.first.length c1), (.slice A2 r.idle.length c2), (.slice A3 r.op.length c3), (.slice A4 r.gr.length c4), (.slice A5 r.en.length c5)], .int .i64 8])) W from fun W hb => ⟨(.slice A1 r.first.length c1), (.slice A2 r.idle.length c2), (.slice A3 r.op.length c3), (.slice A4 r.gr.length c4), (.slice A5 r.en.length c5), by rw [htop], HH.out.below hb, hb⟩)
  rw [htop]
  clear htop hf q1 q2 q3
  have HB0 := Lib.hid (B_alloc (B_alloc (B_refl w) (.cells #[.int .i64 top, (.slice A1 r.first.length c1), (.slice A2 r.idle.length c2), (.slice A3 r.op.length c3), (.slice A4 r.gr.length c4), (.slice A5 r.en.length c5)] 42)) (.cells #[.int .i64 0, .slice none 0 0, .slice none 0 0, .slice none 0 0, .slice none 0 0, .slice none 0 0] 42))
  have HW0 := Lib.hid (Blk.alloc (Blk.new w 42 #[.int .i64 top, (.slice A1 r.first.length c1), (.slice A2 r.idle.length c2), (.slice A3 r.op.length c3), (.slice A4 r.gr.length c4), (.slice A5 r.en.length c5)]) (.cells #[.int .i64 0, .slice none 0 0, .slice none 0 0, .slice none 0 0, .slice none 0 0, .slice none 0 0] 42))
  have HR0 := Lib.hid (show Blk ((w.alloc (.cells #[.int .i64 top, (.slice A1 r.first.length c1), (.slice A2 r.idle.length c2), (.slice A3 r.op.length c3), (.slice A4 r.gr.length c4), (.slice A5 r.en.length c5)] 42)).alloc (.cells #[.int .i64 0, .slice none 0 0, .slice none 0 0, .slice none 0 0, .slice none 0 0, .slice none 0 0] 42)) (w.heap.size + 1) 42 #[.int .i64 0, .slice none 0 0, .slice none 0 0, .slice none 0 0, .slice none 0 0, .slice none 0 0] from heap_at_new _ (by simp))
  have HRF := Lib.hid (show Blk ((w.alloc (.cells #[.int .i64 top, (.slice A1 r.first.length c1), (.slice A2 r.idle.length c2), (.slice A3 r.op.length c3), (.slice A4 r.gr.length c4), (.slice A5 r.en.length c5)] 42)).alloc (.cells #[.int .i64 top, (.slice A1 r.first.length c1), (.slice A2 r.idle.length c2), (.slice A3 r.op.length c3), (.slice A4 r.gr.length c4), (.slice A5 r.en.length c5)] 42)) (w.heap.size + 1) 42 #[.int .i64 top, (.slice A1 r.first.length c1), (.slice A2 r.idle.length c2), (.slice A3 r.op.length c3), (.slice A4 r.gr.length c4), (.slice A5 r.en.length c5)] from heap_at_new _ (by simp))
  have HBF := Lib.hid (B_alloc (B_alloc (B_refl w) (.cells #[.int .i64 top, (.slice A1 r.first.length c1), (.slice A2 r.idle.length c2), (.slice A3 r.op.length c3), (.slice A4 r.gr.length c4), (.slice A5 r.en.length c5)] 42)) (.cells #[.int .i64 top, (.slice A1 r.first.length c1), (.slice A2 r.idle.length c2), (.slice A3 r.op.length c3), (.slice A4 r.gr.length c4), (.slice A5 r.en.length c5)] 42))
  go_enter Try.func31, Try.ntmps31
  go_wp2_with fail
  go_quiet (first | (go_at_call 28; with_reducible exact Calls.quiet_of_same (H1.out _ (by (repeat (first | assumption | exact B_refl _ | refine B_drewN ?_ _ | refine B_drew ?_ | refine B_alloc ?_ _ | refine B_setCell ?_ (by first | (simp; done) | (simp; omega)) _ | refine B_trans ?_ (by assumption)))))) | (go_at_call 28; with_reducible exact Calls.quiet_of_same (H2.out _ (by (repeat (first | assumption | exact B_refl _ | refine B_drewN ?_ _ | refine B_drew ?_ | refine B_alloc ?_ _ | refine B_setCell ?_ (by first | (simp; done) | (simp; omega)) _ | refine B_trans ?_ (by assumption)))))) | (go_at_call 28; with_reducible exact Calls.quiet_of_same (H3.out _ (by (repeat (first | assumption | exact B_refl _ | refine B_drewN ?_ _ | refine B_drew ?_ | refine B_alloc ?_ _ | refine B_setCell ?_ (by first | (simp; done) | (simp; omega)) _ | refine B_trans ?_ (by assumption)))))))
  all_goals
    go_wp2_with fail
    refine back_end (by rfl) (by rfl) (show Blk _ (w.heap.size + 1) 42 #[.int .i64 top, (.slice A1 r.first.length c1), (.slice A2 r.idle.length c2), (.slice A3 r.op.length c3), (.slice A4 r.gr.length c4), (.slice A5 r.en.length c5)] from (((((((HR0.out.drewN _).set_ 0 _).set_ 1 _).set_ 2 _).set_ 3 _).set_ 4 _).set_ 5 _)) ?_
    exact HFIN.out _ (by repeat (first | with_reducible exact HB0.out | refine B_setCell ?_ (by simp) _ | refine B_drewN ?_ _ | refine B_drew ?_))
set_option maxRecDepth 100000 in
set_option maxHeartbeats 4000000 in
theorem back_3 (w : World) (i k : Int) (v1 v2 v3 v4 v5 : Value) (r : RW) (hf : Few r 1000) (h : RWV w v1 v2 v3 v4 v5 r) (q1 : decide (i ∈ r.first) = false) (q2 : decide (i ∈ r.idle) = false) (q3 : decide (i ∈ r.op) = true) (hk : (k == 3) = true) :
    Calls Try.prog 31 #[.agg #[.int .i64 r.top, v1, v2, v3, v4, v5], .int .i64 i, .int .i64 k] w (SeePost w (r, 0)) := by
  have H1 := Lib.hid (fun W (hb : B w W) => has_v W v1 r.first i (by have := hf.l1; omega) (h.h1.below hb))
  have H2 := Lib.hid (fun W (hb : B w W) => has_v W v2 r.idle i (by have := hf.l2; omega) (h.h2.below hb))
  have H3 := Lib.hid (fun W (hb : B w W) => has_v W v3 r.op i (by have := hf.l3; omega) (h.h3.below hb))
  rw [q1] at H1
  rw [q2] at H2
  rw [q3] at H3
  obtain ⟨top, htop⟩ : ∃ top, r.top = top := ⟨_, rfl⟩
  have HH := Lib.hid h
  obtain ⟨⟨A1, c1, rfl, -⟩, ⟨A2, c2, rfl, -⟩, ⟨A3, c3, rfl, -⟩, ⟨A4, c4, rfl, -⟩, ⟨A5, c5, rfl, -⟩⟩ := h
  have HFIN := Lib.hid (show ∀ W, B w W → SeePost w (r, 0) (.returned (.tuple #[.agg #[.int .i64 top, (.slice A1 r.first.length c1), (.slice A2 r.idle.length c2), (.slice A3 r.op.length c3), (.slice A4 r.gr.length c4), (.slice A5 r.en.length c5)], .int .i64 0])) W from fun W hb => ⟨(.slice A1 r.first.length c1), (.slice A2 r.idle.length c2), (.slice A3 r.op.length c3), (.slice A4 r.gr.length c4), (.slice A5 r.en.length c5), by rw [htop], HH.out.below hb, hb⟩)
  rw [htop]
  clear htop hf q1 q2 q3
  have HB0 := Lib.hid (B_alloc (B_alloc (B_refl w) (.cells #[.int .i64 top, (.slice A1 r.first.length c1), (.slice A2 r.idle.length c2), (.slice A3 r.op.length c3), (.slice A4 r.gr.length c4), (.slice A5 r.en.length c5)] 42)) (.cells #[.int .i64 0, .slice none 0 0, .slice none 0 0, .slice none 0 0, .slice none 0 0, .slice none 0 0] 42))
  have HW0 := Lib.hid (Blk.alloc (Blk.new w 42 #[.int .i64 top, (.slice A1 r.first.length c1), (.slice A2 r.idle.length c2), (.slice A3 r.op.length c3), (.slice A4 r.gr.length c4), (.slice A5 r.en.length c5)]) (.cells #[.int .i64 0, .slice none 0 0, .slice none 0 0, .slice none 0 0, .slice none 0 0, .slice none 0 0] 42))
  have HR0 := Lib.hid (show Blk ((w.alloc (.cells #[.int .i64 top, (.slice A1 r.first.length c1), (.slice A2 r.idle.length c2), (.slice A3 r.op.length c3), (.slice A4 r.gr.length c4), (.slice A5 r.en.length c5)] 42)).alloc (.cells #[.int .i64 0, .slice none 0 0, .slice none 0 0, .slice none 0 0, .slice none 0 0, .slice none 0 0] 42)) (w.heap.size + 1) 42 #[.int .i64 0, .slice none 0 0, .slice none 0 0, .slice none 0 0, .slice none 0 0, .slice none 0 0] from heap_at_new _ (by simp))
  have HRF := Lib.hid (show Blk ((w.alloc (.cells #[.int .i64 top, (.slice A1 r.first.length c1), (.slice A2 r.idle.length c2), (.slice A3 r.op.length c3), (.slice A4 r.gr.length c4), (.slice A5 r.en.length c5)] 42)).alloc (.cells #[.int .i64 top, (.slice A1 r.first.length c1), (.slice A2 r.idle.length c2), (.slice A3 r.op.length c3), (.slice A4 r.gr.length c4), (.slice A5 r.en.length c5)] 42)) (w.heap.size + 1) 42 #[.int .i64 top, (.slice A1 r.first.length c1), (.slice A2 r.idle.length c2), (.slice A3 r.op.length c3), (.slice A4 r.gr.length c4), (.slice A5 r.en.length c5)] from heap_at_new _ (by simp))
  have HBF := Lib.hid (B_alloc (B_alloc (B_refl w) (.cells #[.int .i64 top, (.slice A1 r.first.length c1), (.slice A2 r.idle.length c2), (.slice A3 r.op.length c3), (.slice A4 r.gr.length c4), (.slice A5 r.en.length c5)] 42)) (.cells #[.int .i64 top, (.slice A1 r.first.length c1), (.slice A2 r.idle.length c2), (.slice A3 r.op.length c3), (.slice A4 r.gr.length c4), (.slice A5 r.en.length c5)] 42))
  go_enter Try.func31, Try.ntmps31
  go_wp2_with fail
  go_quiet (first | (go_at_call 28; with_reducible exact Calls.quiet_of_same (H1.out _ (by (repeat (first | assumption | exact B_refl _ | refine B_drewN ?_ _ | refine B_drew ?_ | refine B_alloc ?_ _ | refine B_setCell ?_ (by first | (simp; done) | (simp; omega)) _ | refine B_trans ?_ (by assumption)))))) | (go_at_call 28; with_reducible exact Calls.quiet_of_same (H2.out _ (by (repeat (first | assumption | exact B_refl _ | refine B_drewN ?_ _ | refine B_drew ?_ | refine B_alloc ?_ _ | refine B_setCell ?_ (by first | (simp; done) | (simp; omega)) _ | refine B_trans ?_ (by assumption)))))) | (go_at_call 28; with_reducible exact Calls.quiet_of_same (H3.out _ (by (repeat (first | assumption | exact B_refl _ | refine B_drewN ?_ _ | refine B_drew ?_ | refine B_alloc ?_ _ | refine B_setCell ?_ (by first | (simp; done) | (simp; omega)) _ | refine B_trans ?_ (by assumption)))))))
  all_goals
    go_wp2_with fail
    refine back_end (by rfl) (by rfl) (show Blk _ (w.heap.size + 1) 42 #[.int .i64 top, (.slice A1 r.first.length c1), (.slice A2 r.idle.length c2), (.slice A3 r.op.length c3), (.slice A4 r.gr.length c4), (.slice A5 r.en.length c5)] from (((((((HR0.out.drewN _).set_ 0 _).set_ 1 _).set_ 2 _).set_ 3 _).set_ 4 _).set_ 5 _)) ?_
    exact HFIN.out _ (by repeat (first | with_reducible exact HB0.out | refine B_setCell ?_ (by simp) _ | refine B_drewN ?_ _ | refine B_drew ?_))
set_option maxRecDepth 100000 in
set_option maxHeartbeats 4000000 in
theorem back_first (w : World) (i k : Int) (v1 v2 v3 v4 v5 : Value) (r : RW) (hf : Few r 1000) (h : RWV w v1 v2 v3 v4 v5 r) (q1 : decide (i ∈ r.first) = true) (q2 : decide (i ∈ r.idle) = false) (q3 : decide (i ∈ r.op) = false) (hk : (k == 1) = true) :
    Calls Try.prog 31 #[.agg #[.int .i64 r.top, v1, v2, v3, v4, v5], .int .i64 i, .int .i64 k] w (SeePost w (({ r with first := less r.first i, idle := r.idle ++ [i] } : RW), 0)) := by
  have H1 := Lib.hid (fun W (hb : B w W) => has_v W v1 r.first i (by have := hf.l1; omega) (h.h1.below hb))
  have H2 := Lib.hid (fun W (hb : B w W) => has_v W v2 r.idle i (by have := hf.l2; omega) (h.h2.below hb))
  have H3 := Lib.hid (fun W (hb : B w W) => has_v W v3 r.op i (by have := hf.l3; omega) (h.h3.below hb))
  have HL1 := Lib.hid (fun W (hb : B w W) => less_v W v1 r.first i (by have := hf.l1; omega) (h.h1.below hb))
  have HL2 := Lib.hid (fun W (hb : B w W) => more_v W v2 r.idle i (by have := hf.l2; omega) (h.h2.below hb))
  unfold ToL at HL1 HL2
  rw [q1] at H1
  rw [q2] at H2
  rw [q3] at H3
  obtain ⟨top, htop⟩ : ∃ top, r.top = top := ⟨_, rfl⟩
  have HH := Lib.hid h
  obtain ⟨⟨A1, c1, rfl, -⟩, ⟨A2, c2, rfl, -⟩, ⟨A3, c3, rfl, -⟩, ⟨A4, c4, rfl, -⟩, ⟨A5, c5, rfl, -⟩⟩ := h
  have HFIN := Lib.hid (show ∀ W Aa ca na Ab cb nb, IsL W (.slice Aa na ca) (less r.first i) → IsL W (.slice Ab nb cb) (r.idle ++ [i]) → B w W → SeePost w (({ r with first := less r.first i, idle := r.idle ++ [i] } : RW), 0) (.returned (.tuple #[.agg #[.int .i64 top, (.slice Aa na ca), (.slice Ab nb cb), (.slice A3 r.op.length c3), (.slice A4 r.gr.length c4), (.slice A5 r.en.length c5)], .int .i64 0])) W from fun W Aa ca na Ab cb nb ha hbb hb => ⟨_, _, _, _, _, by rw [← htop], ⟨ha, hbb, HH.out.h3.below hb, HH.out.h4.below hb, HH.out.h5.below hb⟩, hb⟩)
  rw [htop] at HFIN ⊢
  clear htop hf q1 q2 q3
  have HB0 := Lib.hid (B_alloc (B_alloc (B_refl w) (.cells #[.int .i64 top, (.slice A1 r.first.length c1), (.slice A2 r.idle.length c2), (.slice A3 r.op.length c3), (.slice A4 r.gr.length c4), (.slice A5 r.en.length c5)] 42)) (.cells #[.int .i64 0, .slice none 0 0, .slice none 0 0, .slice none 0 0, .slice none 0 0, .slice none 0 0] 42))
  have HW0 := Lib.hid (Blk.alloc (Blk.new w 42 #[.int .i64 top, (.slice A1 r.first.length c1), (.slice A2 r.idle.length c2), (.slice A3 r.op.length c3), (.slice A4 r.gr.length c4), (.slice A5 r.en.length c5)]) (.cells #[.int .i64 0, .slice none 0 0, .slice none 0 0, .slice none 0 0, .slice none 0 0, .slice none 0 0] 42))
  have HR0 := Lib.hid (show Blk ((w.alloc (.cells #[.int .i64 top, (.slice A1 r.first.length c1), (.slice A2 r.idle.length c2), (.slice A3 r.op.length c3), (.slice A4 r.gr.length c4), (.slice A5 r.en.length c5)] 42)).alloc (.cells #[.int .i64 0, .slice none 0 0, .slice none 0 0, .slice none 0 0, .slice none 0 0, .slice none 0 0] 42)) (w.heap.size + 1) 42 #[.int .i64 0, .slice none 0 0, .slice none 0 0, .slice none 0 0, .slice none 0 0, .slice none 0 0] from heap_at_new _ (by simp))
  go_enter Try.func31, Try.ntmps31
  go_wp2_with fail
  go_quiet (first | (go_at_call 28; with_reducible exact Calls.quiet_of_same (H1.out _ (by (repeat (first | assumption | exact B_refl _ | refine B_drewN ?_ _ | refine B_drew ?_ | refine B_alloc ?_ _ | refine B_setCell ?_ (by first | (simp; done) | (simp; omega)) _ | refine B_trans ?_ (by assumption)))))) | (go_at_call 28; with_reducible exact Calls.quiet_of_same (H2.out _ (by (repeat (first | assumption | exact B_refl _ | refine B_drewN ?_ _ | refine B_drew ?_ | refine B_alloc ?_ _ | refine B_setCell ?_ (by first | (simp; done) | (simp; omega)) _ | refine B_trans ?_ (by assumption)))))) | (go_at_call 28; with_reducible exact Calls.quiet_of_same (H3.out _ (by (repeat (first | assumption | exact B_refl _ | refine B_drewN ?_ _ | refine B_drew ?_ | refine B_alloc ?_ _ | refine B_setCell ?_ (by first | (simp; done) | (simp; omega)) _ | refine B_trans ?_ (by assumption)))))))
  all_goals
    go_wp2_with fail
    refine (HL1.out _ (by repeat (first | with_reducible exact HB0.out | refine B_drewN ?_ _ | refine B_drew ?_))).mono ?_
    rintro e w1 ⟨Aa, ca, na, rfl, hva, hna, b1⟩
    have HVA := Lib.hid hva
    have HNA := Lib.hid (show ∀ g, Value.ownBlock (.slice Aa na ca) = some g → w.heap.size + 2 ≤ g from fun g hg => by have := hna g hg; simp at this; omega)
    have B1 := Lib.hid (show B w w1 from B_trans (by repeat (first | with_reducible exact HB0.out | refine B_drewN ?_ _ | refine B_drew ?_)) b1)
    have HW1 := Lib.hid (Blk.b (show Blk _ w.heap.size 42 #[.int .i64 top, (.slice A1 r.first.length c1), (.slice A2 r.idle.length c2), (.slice A3 r.op.length c3), (.slice A4 r.gr.length c4), (.slice A5 r.en.length c5)] from HW0.out.drewN _) b1)
    have HR1 := Lib.hid (Blk.b (show Blk _ (w.heap.size + 1) 42 #[.int .i64 0, .slice none 0 0, .slice none 0 0, .slice none 0 0, .slice none 0 0, .slice none 0 0] from HR0.out.drewN _) b1)
    clear b1 hva hna
    have sw := HW1.out
    have d0 := sw.cell 0
    have d1 := sw.cell 1
    have d2 := sw.cell 2
    have d3 := sw.cell 3
    have d4 := sw.cell 4
    have d5 := sw.cell 5
    have fw := fun i => sw.frozen i
    have lw := sw.lt
    simp at d0 d1 d2 d3 d4 d5
    clear sw
    go_wp2_with fail
    refine (HL2.out _ (by repeat (first | with_reducible exact B1.out | refine B_setCell ?_ (by simp) _ | refine B_drew ?_))).mono ?_
    rintro e w2 ⟨Ab, cb, nb, rfl, hvb, hnb, b2⟩
    have HVB := Lib.hid hvb
    have HNB := Lib.hid (show ∀ g, Value.ownBlock (.slice Ab nb cb) = some g → w.heap.size + 2 ≤ g from fun g hg => by have := hnb g hg; have h1 := HR1.out.lt; simp at this; omega)
    have B2 := Lib.hid (show B w w2 from B_trans (by repeat (first | with_reducible exact B1.out | refine B_setCell ?_ (by simp) _ | refine B_drew ?_)) b2)
    have HVA2 := Lib.hid (IsL.below (HVA.out.far (p := ⟨w.heap.size, 1, none⟩) (fun g hg => by have := HNA.out g hg; show g ≠ w.heap.size; omega) _) b2)
    have HW2 := Lib.hid (Blk.b (show Blk _ w.heap.size 42 #[.int .i64 top, (.slice Aa na ca), (.slice A2 r.idle.length c2), (.slice A3 r.op.length c3), (.slice A4 r.gr.length c4), (.slice A5 r.en.length c5)] from HW1.out.set_ 1 _) b2)
    have HR2 := Lib.hid (Blk.b (show Blk _ (w.heap.size + 1) 42 #[.int .i64 0, .slice none 0 0, .slice none 0 0, .slice none 0 0, .slice none 0 0, .slice none 0 0] from HR1.out.far (p := ⟨w.heap.size, 1, none⟩) (by show w.heap.size + 1 ≠ w.heap.size; omega) _) b2)
    clear b2 hvb hnb d0 d1 d2 d3 d4 d5 fw lw HW1 HR1 HVA
    have sw := HW2.out
    have d0 := sw.cell 0
    have d1 := sw.cell 1
    have d2 := sw.cell 2
    have d3 := sw.cell 3
    have d4 := sw.cell 4
    have d5 := sw.cell 5
    have fw := fun i => sw.frozen i
    have lw := sw.lt
    simp at d0 d1 d2 d3 d4 d5
    clear sw
    have sw := HR2.out
    have r0 := sw.cell 0
    have r1 := sw.cell 1
    have r2 := sw.cell 2
    have r3 := sw.cell 3
    have r4 := sw.cell 4
    have r5 := sw.cell 5
    have fr := fun i => sw.frozen i
    have lr := sw.lt
    simp at r0 r1 r2 r3 r4 r5
    clear sw
    go_wp2_with fail
    refine back_end (by rfl) (by rfl) (show Blk _ (w.heap.size + 1) 42 #[.int .i64 top, (.slice Aa na ca), (.slice Ab nb cb), (.slice A3 r.op.length c3), (.slice A4 r.gr.length c4), (.slice A5 r.en.length c5)] from (((((((HR2.out.far (p := ⟨w.heap.size, 2, none⟩) (by show w.heap.size + 1 ≠ w.heap.size; omega) _).set_ 0 _).set_ 1 _).set_ 2 _).set_ 3 _).set_ 4 _).set_ 5 _)) ?_
    refine HFIN.out _ Aa ca na Ab cb nb ?_ ?_ ?_
    · repeat (first | with_reducible exact HVA2.out | refine IsL.far ?_ (fun g hg => by have := HNA.out g hg; first | (show g ≠ w.heap.size; omega) | (show g ≠ w.heap.size + 1; omega)) _)
    · repeat (first | with_reducible exact HVB.out | refine IsL.far ?_ (fun g hg => by have := HNB.out g hg; first | (show g ≠ w.heap.size; omega) | (show g ≠ w.heap.size + 1; omega)) _)
    · repeat (first | with_reducible exact B2.out | refine B_setCell ?_ (by simp) _ | refine B_drew ?_)
set_option maxRecDepth 100000 in
set_option maxHeartbeats 4000000 in
theorem back_idle (w : World) (i k : Int) (v1 v2 v3 v4 v5 : Value) (r : RW) (hf : Few r 1000) (h : RWV w v1 v2 v3 v4 v5 r) (q1 : decide (i ∈ r.first) = false) (q2 : decide (i ∈ r.idle) = true) (q3 : decide (i ∈ r.op) = false) (hk : (k == 2) = true) :
    Calls Try.prog 31 #[.agg #[.int .i64 r.top, v1, v2, v3, v4, v5], .int .i64 i, .int .i64 k] w (SeePost w (({ r with idle := less r.idle i, op := r.op ++ [i] } : RW), 0)) := by
  have H1 := Lib.hid (fun W (hb : B w W) => has_v W v1 r.first i (by have := hf.l1; omega) (h.h1.below hb))
  have H2 := Lib.hid (fun W (hb : B w W) => has_v W v2 r.idle i (by have := hf.l2; omega) (h.h2.below hb))
  have H3 := Lib.hid (fun W (hb : B w W) => has_v W v3 r.op i (by have := hf.l3; omega) (h.h3.below hb))
  have HL1 := Lib.hid (fun W (hb : B w W) => less_v W v2 r.idle i (by have := hf.l2; omega) (h.h2.below hb))
  have HL2 := Lib.hid (fun W (hb : B w W) => more_v W v3 r.op i (by have := hf.l3; omega) (h.h3.below hb))
  unfold ToL at HL1 HL2
  rw [q1] at H1
  rw [q2] at H2
  rw [q3] at H3
  obtain ⟨top, htop⟩ : ∃ top, r.top = top := ⟨_, rfl⟩
  have HH := Lib.hid h
  obtain ⟨⟨A1, c1, rfl, -⟩, ⟨A2, c2, rfl, -⟩, ⟨A3, c3, rfl, -⟩, ⟨A4, c4, rfl, -⟩, ⟨A5, c5, rfl, -⟩⟩ := h
  have HFIN := Lib.hid (show ∀ W Aa ca na Ab cb nb, IsL W (.slice Aa na ca) (less r.idle i) → IsL W (.slice Ab nb cb) (r.op ++ [i]) → B w W → SeePost w (({ r with idle := less r.idle i, op := r.op ++ [i] } : RW), 0) (.returned (.tuple #[.agg #[.int .i64 top, (.slice A1 r.first.length c1), (.slice Aa na ca), (.slice Ab nb cb), (.slice A4 r.gr.length c4), (.slice A5 r.en.length c5)], .int .i64 0])) W from fun W Aa ca na Ab cb nb ha hbb hb => ⟨_, _, _, _, _, by rw [← htop], ⟨HH.out.h1.below hb, ha, hbb, HH.out.h4.below hb, HH.out.h5.below hb⟩, hb⟩)
  rw [htop] at HFIN ⊢
  clear htop hf q1 q2 q3
  have HB0 := Lib.hid (B_alloc (B_alloc (B_refl w) (.cells #[.int .i64 top, (.slice A1 r.first.length c1), (.slice A2 r.idle.length c2), (.slice A3 r.op.length c3), (.slice A4 r.gr.length c4), (.slice A5 r.en.length c5)] 42)) (.cells #[.int .i64 0, .slice none 0 0, .slice none 0 0, .slice none 0 0, .slice none 0 0, .slice none 0 0] 42))
  have HW0 := Lib.hid (Blk.alloc (Blk.new w 42 #[.int .i64 top, (.slice A1 r.first.length c1), (.slice A2 r.idle.length c2), (.slice A3 r.op.length c3), (.slice A4 r.gr.length c4), (.slice A5 r.en.length c5)]) (.cells #[.int .i64 0, .slice none 0 0, .slice none 0 0, .slice none 0 0, .slice none 0 0, .slice none 0 0] 42))
  have HR0 := Lib.hid (show Blk ((w.alloc (.cells #[.int .i64 top, (.slice A1 r.first.length c1), (.slice A2 r.idle.length c2), (.slice A3 r.op.length c3), (.slice A4 r.gr.length c4), (.slice A5 r.en.length c5)] 42)).alloc (.cells #[.int .i64 0, .slice none 0 0, .slice none 0 0, .slice none 0 0, .slice none 0 0, .slice none 0 0] 42)) (w.heap.size + 1) 42 #[.int .i64 0, .slice none 0 0, .slice none 0 0, .slice none 0 0, .slice none 0 0, .slice none 0 0] from heap_at_new _ (by simp))
  go_enter Try.func31, Try.ntmps31
  go_wp2_with fail
  go_quiet (first | (go_at_call 28; with_reducible exact Calls.quiet_of_same (H1.out _ (by (repeat (first | assumption | exact B_refl _ | refine B_drewN ?_ _ | refine B_drew ?_ | refine B_alloc ?_ _ | refine B_setCell ?_ (by first | (simp; done) | (simp; omega)) _ | refine B_trans ?_ (by assumption)))))) | (go_at_call 28; with_reducible exact Calls.quiet_of_same (H2.out _ (by (repeat (first | assumption | exact B_refl _ | refine B_drewN ?_ _ | refine B_drew ?_ | refine B_alloc ?_ _ | refine B_setCell ?_ (by first | (simp; done) | (simp; omega)) _ | refine B_trans ?_ (by assumption)))))) | (go_at_call 28; with_reducible exact Calls.quiet_of_same (H3.out _ (by (repeat (first | assumption | exact B_refl _ | refine B_drewN ?_ _ | refine B_drew ?_ | refine B_alloc ?_ _ | refine B_setCell ?_ (by first | (simp; done) | (simp; omega)) _ | refine B_trans ?_ (by assumption)))))))
  all_goals
    go_wp2_with fail
    refine (HL1.out _ (by repeat (first | with_reducible exact HB0.out | refine B_drewN ?_ _ | refine B_drew ?_))).mono ?_
    rintro e w1 ⟨Aa, ca, na, rfl, hva, hna, b1⟩
    have HVA := Lib.hid hva
    have HNA := Lib.hid (show ∀ g, Value.ownBlock (.slice Aa na ca) = some g → w.heap.size + 2 ≤ g from fun g hg => by have := hna g hg; simp at this; omega)
    have B1 := Lib.hid (show B w w1 from B_trans (by repeat (first | with_reducible exact HB0.out | refine B_drewN ?_ _ | refine B_drew ?_)) b1)
    have HW1 := Lib.hid (Blk.b (show Blk _ w.heap.size 42 #[.int .i64 top, (.slice A1 r.first.length c1), (.slice A2 r.idle.length c2), (.slice A3 r.op.length c3), (.slice A4 r.gr.length c4), (.slice A5 r.en.length c5)] from HW0.out.drewN _) b1)
    have HR1 := Lib.hid (Blk.b (show Blk _ (w.heap.size + 1) 42 #[.int .i64 0, .slice none 0 0, .slice none 0 0, .slice none 0 0, .slice none 0 0, .slice none 0 0] from HR0.out.drewN _) b1)
    clear b1 hva hna
    have sw := HW1.out
    have d0 := sw.cell 0
    have d1 := sw.cell 1
    have d2 := sw.cell 2
    have d3 := sw.cell 3
    have d4 := sw.cell 4
    have d5 := sw.cell 5
    have fw := fun i => sw.frozen i
    have lw := sw.lt
    simp at d0 d1 d2 d3 d4 d5
    clear sw
    go_wp2_with fail
    refine (HL2.out _ (by repeat (first | with_reducible exact B1.out | refine B_setCell ?_ (by simp) _ | refine B_drew ?_))).mono ?_
    rintro e w2 ⟨Ab, cb, nb, rfl, hvb, hnb, b2⟩
    have HVB := Lib.hid hvb
    have HNB := Lib.hid (show ∀ g, Value.ownBlock (.slice Ab nb cb) = some g → w.heap.size + 2 ≤ g from fun g hg => by have := hnb g hg; have h1 := HR1.out.lt; simp at this; omega)
    have B2 := Lib.hid (show B w w2 from B_trans (by repeat (first | with_reducible exact B1.out | refine B_setCell ?_ (by simp) _ | refine B_drew ?_)) b2)
    have HVA2 := Lib.hid (IsL.below (HVA.out.far (p := ⟨w.heap.size, 2, none⟩) (fun g hg => by have := HNA.out g hg; show g ≠ w.heap.size; omega) _) b2)
    have HW2 := Lib.hid (Blk.b (show Blk _ w.heap.size 42 #[.int .i64 top, (.slice A1 r.first.length c1), (.slice Aa na ca), (.slice A3 r.op.length c3), (.slice A4 r.gr.length c4), (.slice A5 r.en.length c5)] from HW1.out.set_ 2 _) b2)
    have HR2 := Lib.hid (Blk.b (show Blk _ (w.heap.size + 1) 42 #[.int .i64 0, .slice none 0 0, .slice none 0 0, .slice none 0 0, .slice none 0 0, .slice none 0 0] from HR1.out.far (p := ⟨w.heap.size, 2, none⟩) (by show w.heap.size + 1 ≠ w.heap.size; omega) _) b2)
    clear b2 hvb hnb d0 d1 d2 d3 d4 d5 fw lw HW1 HR1 HVA
    have sw := HW2.out
    have d0 := sw.cell 0
    have d1 := sw.cell 1
    have d2 := sw.cell 2
    have d3 := sw.cell 3
    have d4 := sw.cell 4
    have d5 := sw.cell 5
    have fw := fun i => sw.frozen i
    have lw := sw.lt
    simp at d0 d1 d2 d3 d4 d5
    clear sw
    have sw := HR2.out
    have r0 := sw.cell 0
    have r1 := sw.cell 1
    have r2 := sw.cell 2
    have r3 := sw.cell 3
    have r4 := sw.cell 4
    have r5 := sw.cell 5
    have fr := fun i => sw.frozen i
    have lr := sw.lt
    simp at r0 r1 r2 r3 r4 r5
    clear sw
    go_wp2_with fail
    refine back_end (by rfl) (by rfl) (show Blk _ (w.heap.size + 1) 42 #[.int .i64 top, (.slice A1 r.first.length c1), (.slice Aa na ca), (.slice Ab nb cb), (.slice A4 r.gr.length c4), (.slice A5 r.en.length c5)] from (((((((HR2.out.far (p := ⟨w.heap.size, 3, none⟩) (by show w.heap.size + 1 ≠ w.heap.size; omega) _).set_ 0 _).set_ 1 _).set_ 2 _).set_ 3 _).set_ 4 _).set_ 5 _)) ?_
    refine HFIN.out _ Aa ca na Ab cb nb ?_ ?_ ?_
    · repeat (first | with_reducible exact HVA2.out | refine IsL.far ?_ (fun g hg => by have := HNA.out g hg; first | (show g ≠ w.heap.size; omega) | (show g ≠ w.heap.size + 1; omega)) _)
    · repeat (first | with_reducible exact HVB.out | refine IsL.far ?_ (fun g hg => by have := HNB.out g hg; first | (show g ≠ w.heap.size; omega) | (show g ≠ w.heap.size + 1; omega)) _)
    · repeat (first | with_reducible exact B2.out | refine B_setCell ?_ (by simp) _ | refine B_drew ?_)
set_option maxRecDepth 100000 in
set_option maxHeartbeats 4000000 in
theorem back_4 (w : World) (i k : Int) (v1 v2 v3 v4 v5 : Value) (r : RW) (hf : Few r 1000) (h : RWV w v1 v2 v3 v4 v5 r) (q1 : decide (i ∈ r.first) = false) (q2 : decide (i ∈ r.idle) = false) (q3 : decide (i ∈ r.op) = true) (hk : (k == 3) = false) (hk4 : (k == 4) = true) :
    Calls Try.prog 31 #[.agg #[.int .i64 r.top, v1, v2, v3, v4, v5], .int .i64 i, .int .i64 k] w (SeePost w (({ r with op := less r.op i, idle := r.idle ++ [i] } : RW), 0)) := by
  have H1 := Lib.hid (fun W (hb : B w W) => has_v W v1 r.first i (by have := hf.l1; omega) (h.h1.below hb))
  have H2 := Lib.hid (fun W (hb : B w W) => has_v W v2 r.idle i (by have := hf.l2; omega) (h.h2.below hb))
  have H3 := Lib.hid (fun W (hb : B w W) => has_v W v3 r.op i (by have := hf.l3; omega) (h.h3.below hb))
  have HL1 := Lib.hid (fun W (hb : B w W) => less_v W v3 r.op i (by have := hf.l3; omega) (h.h3.below hb))
  have HL2 := Lib.hid (fun W (hb : B w W) => more_v W v2 r.idle i (by have := hf.l2; omega) (h.h2.below hb))
  unfold ToL at HL1 HL2
  rw [q1] at H1
  rw [q2] at H2
  rw [q3] at H3
  obtain ⟨top, htop⟩ : ∃ top, r.top = top := ⟨_, rfl⟩
  have HH := Lib.hid h
  obtain ⟨⟨A1, c1, rfl, -⟩, ⟨A2, c2, rfl, -⟩, ⟨A3, c3, rfl, -⟩, ⟨A4, c4, rfl, -⟩, ⟨A5, c5, rfl, -⟩⟩ := h
  have HFIN := Lib.hid (show ∀ W Aa ca na Ab cb nb, IsL W (.slice Aa na ca) (less r.op i) → IsL W (.slice Ab nb cb) (r.idle ++ [i]) → B w W → SeePost w (({ r with op := less r.op i, idle := r.idle ++ [i] } : RW), 0) (.returned (.tuple #[.agg #[.int .i64 top, (.slice A1 r.first.length c1), (.slice Ab nb cb), (.slice Aa na ca), (.slice A4 r.gr.length c4), (.slice A5 r.en.length c5)], .int .i64 0])) W from fun W Aa ca na Ab cb nb ha hbb hb => ⟨_, _, _, _, _, by rw [← htop], ⟨HH.out.h1.below hb, hbb, ha, HH.out.h4.below hb, HH.out.h5.below hb⟩, hb⟩)
  rw [htop] at HFIN ⊢
  clear htop hf q1 q2 q3
  have HB0 := Lib.hid (B_alloc (B_alloc (B_refl w) (.cells #[.int .i64 top, (.slice A1 r.first.length c1), (.slice A2 r.idle.length c2), (.slice A3 r.op.length c3), (.slice A4 r.gr.length c4), (.slice A5 r.en.length c5)] 42)) (.cells #[.int .i64 0, .slice none 0 0, .slice none 0 0, .slice none 0 0, .slice none 0 0, .slice none 0 0] 42))
  have HW0 := Lib.hid (Blk.alloc (Blk.new w 42 #[.int .i64 top, (.slice A1 r.first.length c1), (.slice A2 r.idle.length c2), (.slice A3 r.op.length c3), (.slice A4 r.gr.length c4), (.slice A5 r.en.length c5)]) (.cells #[.int .i64 0, .slice none 0 0, .slice none 0 0, .slice none 0 0, .slice none 0 0, .slice none 0 0] 42))
  have HR0 := Lib.hid (show Blk ((w.alloc (.cells #[.int .i64 top, (.slice A1 r.first.length c1), (.slice A2 r.idle.length c2), (.slice A3 r.op.length c3), (.slice A4 r.gr.length c4), (.slice A5 r.en.length c5)] 42)).alloc (.cells #[.int .i64 0, .slice none 0 0, .slice none 0 0, .slice none 0 0, .slice none 0 0, .slice none 0 0] 42)) (w.heap.size + 1) 42 #[.int .i64 0, .slice none 0 0, .slice none 0 0, .slice none 0 0, .slice none 0 0, .slice none 0 0] from heap_at_new _ (by simp))
  go_enter Try.func31, Try.ntmps31
  go_wp2_with fail
  go_quiet (first | (go_at_call 28; with_reducible exact Calls.quiet_of_same (H1.out _ (by (repeat (first | assumption | exact B_refl _ | refine B_drewN ?_ _ | refine B_drew ?_ | refine B_alloc ?_ _ | refine B_setCell ?_ (by first | (simp; done) | (simp; omega)) _ | refine B_trans ?_ (by assumption)))))) | (go_at_call 28; with_reducible exact Calls.quiet_of_same (H2.out _ (by (repeat (first | assumption | exact B_refl _ | refine B_drewN ?_ _ | refine B_drew ?_ | refine B_alloc ?_ _ | refine B_setCell ?_ (by first | (simp; done) | (simp; omega)) _ | refine B_trans ?_ (by assumption)))))) | (go_at_call 28; with_reducible exact Calls.quiet_of_same (H3.out _ (by (repeat (first | assumption | exact B_refl _ | refine B_drewN ?_ _ | refine B_drew ?_ | refine B_alloc ?_ _ | refine B_setCell ?_ (by first | (simp; done) | (simp; omega)) _ | refine B_trans ?_ (by assumption)))))))
  all_goals
    go_wp2_with fail
    refine (HL1.out _ (by repeat (first | with_reducible exact HB0.out | refine B_drewN ?_ _ | refine B_drew ?_))).mono ?_
    rintro e w1 ⟨Aa, ca, na, rfl, hva, hna, b1⟩
    have HVA := Lib.hid hva
    have HNA := Lib.hid (show ∀ g, Value.ownBlock (.slice Aa na ca) = some g → w.heap.size + 2 ≤ g from fun g hg => by have := hna g hg; simp at this; omega)
    have B1 := Lib.hid (show B w w1 from B_trans (by repeat (first | with_reducible exact HB0.out | refine B_drewN ?_ _ | refine B_drew ?_)) b1)
    have HW1 := Lib.hid (Blk.b (show Blk _ w.heap.size 42 #[.int .i64 top, (.slice A1 r.first.length c1), (.slice A2 r.idle.length c2), (.slice A3 r.op.length c3), (.slice A4 r.gr.length c4), (.slice A5 r.en.length c5)] from HW0.out.drewN _) b1)
    have HR1 := Lib.hid (Blk.b (show Blk _ (w.heap.size + 1) 42 #[.int .i64 0, .slice none 0 0, .slice none 0 0, .slice none 0 0, .slice none 0 0, .slice none 0 0] from HR0.out.drewN _) b1)
    clear b1 hva hna
    have sw := HW1.out
    have d0 := sw.cell 0
    have d1 := sw.cell 1
    have d2 := sw.cell 2
    have d3 := sw.cell 3
    have d4 := sw.cell 4
    have d5 := sw.cell 5
    have fw := fun i => sw.frozen i
    have lw := sw.lt
    simp at d0 d1 d2 d3 d4 d5
    clear sw
    go_wp2_with fail
    refine (HL2.out _ (by repeat (first | with_reducible exact B1.out | refine B_setCell ?_ (by simp) _ | refine B_drew ?_))).mono ?_
    rintro e w2 ⟨Ab, cb, nb, rfl, hvb, hnb, b2⟩
    have HVB := Lib.hid hvb
    have HNB := Lib.hid (show ∀ g, Value.ownBlock (.slice Ab nb cb) = some g → w.heap.size + 2 ≤ g from fun g hg => by have := hnb g hg; have h1 := HR1.out.lt; simp at this; omega)
    have B2 := Lib.hid (show B w w2 from B_trans (by repeat (first | with_reducible exact B1.out | refine B_setCell ?_ (by simp) _ | refine B_drew ?_)) b2)
    have HVA2 := Lib.hid (IsL.below (HVA.out.far (p := ⟨w.heap.size, 3, none⟩) (fun g hg => by have := HNA.out g hg; show g ≠ w.heap.size; omega) _) b2)
    have HW2 := Lib.hid (Blk.b (show Blk _ w.heap.size 42 #[.int .i64 top, (.slice A1 r.first.length c1), (.slice A2 r.idle.length c2), (.slice Aa na ca), (.slice A4 r.gr.length c4), (.slice A5 r.en.length c5)] from HW1.out.set_ 3 _) b2)
    have HR2 := Lib.hid (Blk.b (show Blk _ (w.heap.size + 1) 42 #[.int .i64 0, .slice none 0 0, .slice none 0 0, .slice none 0 0, .slice none 0 0, .slice none 0 0] from HR1.out.far (p := ⟨w.heap.size, 3, none⟩) (by show w.heap.size + 1 ≠ w.heap.size; omega) _) b2)
    clear b2 hvb hnb d0 d1 d2 d3 d4 d5 fw lw HW1 HR1 HVA
    have sw := HW2.out
    have d0 := sw.cell 0
    have d1 := sw.cell 1
    have d2 := sw.cell 2
    have d3 := sw.cell 3
    have d4 := sw.cell 4
    have d5 := sw.cell 5
    have fw := fun i => sw.frozen i
    have lw := sw.lt
    simp at d0 d1 d2 d3 d4 d5
    clear sw
    have sw := HR2.out
    have r0 := sw.cell 0
    have r1 := sw.cell 1
    have r2 := sw.cell 2
    have r3 := sw.cell 3
    have r4 := sw.cell 4
    have r5 := sw.cell 5
    have fr := fun i => sw.frozen i
    have lr := sw.lt
    simp at r0 r1 r2 r3 r4 r5
    clear sw
    go_wp2_with fail
    refine back_end (by rfl) (by rfl) (show Blk _ (w.heap.size + 1) 42 #[.int .i64 top, (.slice A1 r.first.length c1), (.slice Ab nb cb), (.slice Aa na ca), (.slice A4 r.gr.length c4), (.slice A5 r.en.length c5)] from (((((((HR2.out.far (p := ⟨w.heap.size, 2, none⟩) (by show w.heap.size + 1 ≠ w.heap.size; omega) _).set_ 0 _).set_ 1 _).set_ 2 _).set_ 3 _).set_ 4 _).set_ 5 _)) ?_
    refine HFIN.out _ Aa ca na Ab cb nb ?_ ?_ ?_
    · repeat (first | with_reducible exact HVA2.out | refine IsL.far ?_ (fun g hg => by have := HNA.out g hg; first | (show g ≠ w.heap.size; omega) | (show g ≠ w.heap.size + 1; omega)) _)
    · repeat (first | with_reducible exact HVB.out | refine IsL.far ?_ (fun g hg => by have := HNB.out g hg; first | (show g ≠ w.heap.size; omega) | (show g ≠ w.heap.size + 1; omega)) _)
    · repeat (first | with_reducible exact B2.out | refine B_setCell ?_ (by simp) _ | refine B_drew ?_)
set_option maxRecDepth 100000 in
set_option maxHeartbeats 4000000 in
theorem back_5 (w : World) (i k : Int) (v1 v2 v3 v4 v5 : Value) (r : RW) (hf : Few r 1000) (h : RWV w v1 v2 v3 v4 v5 r) (q1 : decide (i ∈ r.first) = false) (q2 : decide (i ∈ r.idle) = false) (q3 : decide (i ∈ r.op) = true) (hk : (k == 3) = false) (hk4 : (k == 4) = false) (hk5 : (k == 5) = true) :
    Calls Try.prog 31 #[.agg #[.int .i64 r.top, v1, v2, v3, v4, v5], .int .i64 i, .int .i64 k] w (SeePost w (({ r with op := less r.op i, idle := r.idle ++ [i] } : RW), 0)) := by
  have H1 := Lib.hid (fun W (hb : B w W) => has_v W v1 r.first i (by have := hf.l1; omega) (h.h1.below hb))
  have H2 := Lib.hid (fun W (hb : B w W) => has_v W v2 r.idle i (by have := hf.l2; omega) (h.h2.below hb))
  have H3 := Lib.hid (fun W (hb : B w W) => has_v W v3 r.op i (by have := hf.l3; omega) (h.h3.below hb))
  have HL1 := Lib.hid (fun W (hb : B w W) => less_v W v3 r.op i (by have := hf.l3; omega) (h.h3.below hb))
  have HL2 := Lib.hid (fun W (hb : B w W) => more_v W v2 r.idle i (by have := hf.l2; omega) (h.h2.below hb))
  unfold ToL at HL1 HL2
  rw [q1] at H1
  rw [q2] at H2
  rw [q3] at H3
  obtain ⟨top, htop⟩ : ∃ top, r.top = top := ⟨_, rfl⟩
  have HH := Lib.hid h
  obtain ⟨⟨A1, c1, rfl, -⟩, ⟨A2, c2, rfl, -⟩, ⟨A3, c3, rfl, -⟩, ⟨A4, c4, rfl, -⟩, ⟨A5, c5, rfl, -⟩⟩ := h
  have HFIN := Lib.hid (show ∀ W Aa ca na Ab cb nb, IsL W (.slice Aa na ca) (less r.op i) → IsL W (.slice Ab nb cb) (r.idle ++ [i]) → B w W → SeePost w (({ r with op := less r.op i, idle := r.idle ++ [i] } : RW), 0) (.returned (.tuple #[.agg #[.int .i64 top, (.slice A1 r.first.length c1), (.slice Ab nb cb), (.slice Aa na ca), (.slice A4 r.gr.length c4), (.slice A5 r.en.length c5)], .int .i64 0])) W from fun W Aa ca na Ab cb nb ha hbb hb => ⟨_, _, _, _, _, by rw [← htop], ⟨HH.out.h1.below hb, hbb, ha, HH.out.h4.below hb, HH.out.h5.below hb⟩, hb⟩)
  rw [htop] at HFIN ⊢
  clear htop hf q1 q2 q3
  have HB0 := Lib.hid (B_alloc (B_alloc (B_refl w) (.cells #[.int .i64 top, (.slice A1 r.first.length c1), (.slice A2 r.idle.length c2), (.slice A3 r.op.length c3), (.slice A4 r.gr.length c4), (.slice A5 r.en.length c5)] 42)) (.cells #[.int .i64 0, .slice none 0 0, .slice none 0 0, .slice none 0 0, .slice none 0 0, .slice none 0 0] 42))
  have HW0 := Lib.hid (Blk.alloc (Blk.new w 42 #[.int .i64 top, (.slice A1 r.first.length c1), (.slice A2 r.idle.length c2), (.slice A3 r.op.length c3), (.slice A4 r.gr.length c4), (.slice A5 r.en.length c5)]) (.cells #[.int .i64 0, .slice none 0 0, .slice none 0 0, .slice none 0 0, .slice none 0 0, .slice none 0 0] 42))
  have HR0 := Lib.hid (show Blk ((w.alloc (.cells #[.int .i64 top, (.slice A1 r.first.length c1), (.slice A2 r.idle.length c2), (.slice A3 r.op.length c3), (.slice A4 r.gr.length c4), (.slice A5 r.en.length c5)] 42)).alloc (.cells #[.int .i64 0, .slice none 0 0, .slice none 0 0, .slice none 0 0, .slice none 0 0, .slice none 0 0] 42)) (w.heap.size + 1) 42 #[.int .i64 0, .slice none 0 0, .slice none 0 0, .slice none 0 0, .slice none 0 0, .slice none 0 0] from heap_at_new _ (by simp))
  go_enter Try.func31, Try.ntmps31
  go_wp2_with fail
  go_quiet (first | (go_at_call 28; with_reducible exact Calls.quiet_of_same (H1.out _ (by (repeat (first | assumption | exact B_refl _ | refine B_drewN ?_ _ | refine B_drew ?_ | refine B_alloc ?_ _ | refine B_setCell ?_ (by first | (simp; done) | (simp; omega)) _ | refine B_trans ?_ (by assumption)))))) | (go_at_call 28; with_reducible exact Calls.quiet_of_same (H2.out _ (by (repeat (first | assumption | exact B_refl _ | refine B_drewN ?_ _ | refine B_drew ?_ | refine B_alloc ?_ _ | refine B_setCell ?_ (by first | (simp; done) | (simp; omega)) _ | refine B_trans ?_ (by assumption)))))) | (go_at_call 28; with_reducible exact Calls.quiet_of_same (H3.out _ (by (repeat (first | assumption | exact B_refl _ | refine B_drewN ?_ _ | refine B_drew ?_ | refine B_alloc ?_ _ | refine B_setCell ?_ (by first | (simp; done) | (simp; omega)) _ | refine B_trans ?_ (by assumption)))))))
  all_goals
    go_wp2_with fail
    refine (HL1.out _ (by repeat (first | with_reducible exact HB0.out | refine B_drewN ?_ _ | refine B_drew ?_))).mono ?_
    rintro e w1 ⟨Aa, ca, na, rfl, hva, hna, b1⟩
    have HVA := Lib.hid hva
    have HNA := Lib.hid (show ∀ g, Value.ownBlock (.slice Aa na ca) = some g → w.heap.size + 2 ≤ g from fun g hg => by have := hna g hg; simp at this; omega)
    have B1 := Lib.hid (show B w w1 from B_trans (by repeat (first | with_reducible exact HB0.out | refine B_drewN ?_ _ | refine B_drew ?_)) b1)
    have HW1 := Lib.hid (Blk.b (show Blk _ w.heap.size 42 #[.int .i64 top, (.slice A1 r.first.length c1), (.slice A2 r.idle.length c2), (.slice A3 r.op.length c3), (.slice A4 r.gr.length c4), (.slice A5 r.en.length c5)] from HW0.out.drewN _) b1)
    have HR1 := Lib.hid (Blk.b (show Blk _ (w.heap.size + 1) 42 #[.int .i64 0, .slice none 0 0, .slice none 0 0, .slice none 0 0, .slice none 0 0, .slice none 0 0] from HR0.out.drewN _) b1)
    clear b1 hva hna
    have sw := HW1.out
    have d0 := sw.cell 0
    have d1 := sw.cell 1
    have d2 := sw.cell 2
    have d3 := sw.cell 3
    have d4 := sw.cell 4
    have d5 := sw.cell 5
    have fw := fun i => sw.frozen i
    have lw := sw.lt
    simp at d0 d1 d2 d3 d4 d5
    clear sw
    go_wp2_with fail
    refine (HL2.out _ (by repeat (first | with_reducible exact B1.out | refine B_setCell ?_ (by simp) _ | refine B_drew ?_))).mono ?_
    rintro e w2 ⟨Ab, cb, nb, rfl, hvb, hnb, b2⟩
    have HVB := Lib.hid hvb
    have HNB := Lib.hid (show ∀ g, Value.ownBlock (.slice Ab nb cb) = some g → w.heap.size + 2 ≤ g from fun g hg => by have := hnb g hg; have h1 := HR1.out.lt; simp at this; omega)
    have B2 := Lib.hid (show B w w2 from B_trans (by repeat (first | with_reducible exact B1.out | refine B_setCell ?_ (by simp) _ | refine B_drew ?_)) b2)
    have HVA2 := Lib.hid (IsL.below (HVA.out.far (p := ⟨w.heap.size, 3, none⟩) (fun g hg => by have := HNA.out g hg; show g ≠ w.heap.size; omega) _) b2)
    have HW2 := Lib.hid (Blk.b (show Blk _ w.heap.size 42 #[.int .i64 top, (.slice A1 r.first.length c1), (.slice A2 r.idle.length c2), (.slice Aa na ca), (.slice A4 r.gr.length c4), (.slice A5 r.en.length c5)] from HW1.out.set_ 3 _) b2)
    have HR2 := Lib.hid (Blk.b (show Blk _ (w.heap.size + 1) 42 #[.int .i64 0, .slice none 0 0, .slice none 0 0, .slice none 0 0, .slice none 0 0, .slice none 0 0] from HR1.out.far (p := ⟨w.heap.size, 3, none⟩) (by show w.heap.size + 1 ≠ w.heap.size; omega) _) b2)
    clear b2 hvb hnb d0 d1 d2 d3 d4 d5 fw lw HW1 HR1 HVA
    have sw := HW2.out
    have d0 := sw.cell 0
    have d1 := sw.cell 1
    have d2 := sw.cell 2
    have d3 := sw.cell 3
    have d4 := sw.cell 4
    have d5 := sw.cell 5
    have fw := fun i => sw.frozen i
    have lw := sw.lt
    simp at d0 d1 d2 d3 d4 d5
    clear sw
    have sw := HR2.out
    have r0 := sw.cell 0
    have r1 := sw.cell 1
    have r2 := sw.cell 2
    have r3 := sw.cell 3
    have r4 := sw.cell 4
    have r5 := sw.cell 5
    have fr := fun i => sw.frozen i
    have lr := sw.lt
    simp at r0 r1 r2 r3 r4 r5
    clear sw
    go_wp2_with fail
    refine back_end (by rfl) (by rfl) (show Blk _ (w.heap.size + 1) 42 #[.int .i64 top, (.slice A1 r.first.length c1), (.slice Ab nb cb), (.slice Aa na ca), (.slice A4 r.gr.length c4), (.slice A5 r.en.length c5)] from (((((((HR2.out.far (p := ⟨w.heap.size, 2, none⟩) (by show w.heap.size + 1 ≠ w.heap.size; omega) _).set_ 0 _).set_ 1 _).set_ 2 _).set_ 3 _).set_ 4 _).set_ 5 _)) ?_
    refine HFIN.out _ Aa ca na Ab cb nb ?_ ?_ ?_
    · repeat (first | with_reducible exact HVA2.out | refine IsL.far ?_ (fun g hg => by have := HNA.out g hg; first | (show g ≠ w.heap.size; omega) | (show g ≠ w.heap.size + 1; omega)) _)
    · repeat (first | with_reducible exact HVB.out | refine IsL.far ?_ (fun g hg => by have := HNB.out g hg; first | (show g ≠ w.heap.size; omega) | (show g ≠ w.heap.size + 1; omega)) _)
    · repeat (first | with_reducible exact B2.out | refine B_setCell ?_ (by simp) _ | refine B_drew ?_)
/-- no connection stands in two lists -/
def Apart (r : RW) (i : Int) : Prop := (i ∈ r.first → i ∉ r.idle ∧ i ∉ r.op) ∧ (i ∈ r.idle → i ∉ r.op)
theorem refback_any (w : World) (i k : Int) (v1 v2 v3 v4 v5 : Value) (r : RW) (hf : Few r 1000) (ha : Apart r i) (h : RWV w v1 v2 v3 v4 v5 r) :
    Calls Try.prog 31 #[.agg #[.int .i64 r.top, v1, v2, v3, v4, v5], .int .i64 i, .int .i64 k] w (SeePost w (backR r i k)) := by
  have bt : ∀ {p : Prop} [Decidable p], p → decide p = true := fun h => decide_eq_true h
  have bf : ∀ {p : Prop} [Decidable p], ¬ p → decide p = false := fun h => decide_eq_false h
  have kt : ∀ {n : Int}, k = n → (k == n) = true := fun h => beq_iff_eq.2 h
  have kf : ∀ {n : Int}, k ≠ n → (k == n) = false := fun h => beq_eq_false_iff_ne.2 h
  unfold backR
  by_cases a1 : i ∈ r.first
  · obtain ⟨a2, a3⟩ := ha.1 a1
    by_cases hk : k = 1
    · rw [if_pos ⟨a1, hk⟩]; exact back_first w i k v1 v2 v3 v4 v5 r hf h (bt a1) (bf a2) (bf a3) (kt hk)
    · rw [if_neg (fun x => hk x.2), if_neg (fun x => a2 x.1), if_neg (fun x => a3 x.1), if_neg (fun x => a3 x.1)]
      exact back_tff w i k v1 v2 v3 v4 v5 r hf h (bt a1) (bf a2) (bf a3) (kf hk)
  rw [if_neg (fun x => a1 x.1)]
  by_cases a2 : i ∈ r.idle
  · have a3 := ha.2 a2
    by_cases hk : k = 2
    · rw [if_pos ⟨a2, hk⟩]; exact back_idle w i k v1 v2 v3 v4 v5 r hf h (bf a1) (bt a2) (bf a3) (kt hk)
    · rw [if_neg (fun x => hk x.2), if_neg (fun x => a3 x.1), if_neg (fun x => a3 x.1)]
      exact back_ftf w i k v1 v2 v3 v4 v5 r hf h (bf a1) (bt a2) (bf a3) (kf hk)
  rw [if_neg (fun x => a2 x.1)]
  by_cases a3 : i ∈ r.op
  · by_cases hk : k = 3
    · rw [if_pos ⟨a3, hk⟩]; exact back_3 w i k v1 v2 v3 v4 v5 r hf h (bf a1) (bf a2) (bt a3) (kt hk)
    · rw [if_neg (fun x => hk x.2)]
      by_cases h4 : k = 4
      · rw [if_pos ⟨a3, .inl h4⟩]; exact back_4 w i k v1 v2 v3 v4 v5 r hf h (bf a1) (bf a2) (bt a3) (kf hk) (kt h4)
      · by_cases h5 : k = 5
        · rw [if_pos ⟨a3, .inr h5⟩]; exact back_5 w i k v1 v2 v3 v4 v5 r hf h (bf a1) (bf a2) (bt a3) (kf hk) (kf h4) (kt h5)
        · rw [if_neg (by rintro ⟨_, x | x⟩; exact h4 x; exact h5 x)]
          exact back_fft w i k v1 v2 v3 v4 v5 r hf h (bf a1) (bf a2) (bt a3) (kf hk) (kf h4) (kf h5)
  · rw [if_neg (fun x => a3 x.1), if_neg (fun x => a3 x.1)]
    exact back_fff w i k v1 v2 v3 v4 v5 r hf h (bf a1) (bf a2) (bf a3)
end Go.Proofs.Ytghjhcobmbobcaa.Wt
namespace Go.Proofs.Ytghjhcobmbobcaa.Wt
open Go.RowKit Go.Proofs.Ytghjhcobmbobcaa
theorem sees_end {tmps : Array Value} {W : World} {b : Nat} {k c : Int} {v1 v2 v3 v4 v5 : Value} {Q : Ending → World → Prop} (h2 : tmps[4]? = some (.pointer (some ⟨b, 0, none⟩))) (h3 : tmps[5]? = some (.int .i64 c))
    (hC : Blk W b 42 #[.int .i64 k, v1, v2, v3, v4, v5]) (hQ : Q (.returned (.tuple #[.agg #[.int .i64 k, v1, v2, v3, v4, v5], .int .i64 c])) W) :
    bodyPost Try.prog Try.f16 Q .ret { tmps := tmps, defers := [] } W := by
  have c0 := hC.cell 0
  have c1 := hC.cell 1
  have c2 := hC.cell 2
  have c3 := hC.cell 3
  have c4 := hC.cell 4
  have c5 := hC.cell 5
  simp at c0 c1 c2 c3 c4 c5
  refine bodyPost_ret (v := .tuple #[.agg #[.int .i64 k, v1, v2, v3, v4, v5], .int .i64 c]) ?_ rfl hQ
  simp [results, Try.results16, h2, h3, asAddr, c0, c1, c2, c3, c4, c5, go_sem]
set_option maxRecDepth 100000 in
set_option maxHeartbeats 8000000 in
theorem see_no (w : World) (k id fk : Int) (data text : ByteArray) (v1 v2 v3 v4 v5 : Value) (r : RW) (hf : Few r 1000) (h : RWV w v1 v2 v3 v4 v5 r) (ht : text.size ≤ 9999) (hr : rightV ⟨k, id, fk, data, text⟩ = false) :
    Calls Try.prog 16 #[.agg #[.int .i64 r.top, v1, v2, v3, v4, v5], .agg #[.int .i64 (k), .int .i64 id, .int .i64 fk, .string data, .string text]] w (SeePost w (r, 1)) := by
  have HRT := Lib.hid (show ∀ W, Calls Try.prog 27 #[.agg #[.int .i64 (k), .int .i64 id, .int .i64 fk, .string data, .string text]] W fun e w' => e = .returned (.bool false) ∧ B W w' from fun W => by
    have := refright_any ⟨k, id, fk, data, text⟩ ht W
    rw [hr] at this
    exact this)
  obtain ⟨top, htop⟩ : ∃ top, r.top = top := ⟨_, rfl⟩
  have HH := Lib.hid h
  obtain ⟨⟨A1, c1, rfl, -⟩, ⟨A2, c2, rfl, -⟩, ⟨A3, c3, rfl, -⟩, ⟨A4, c4, rfl, -⟩, ⟨A5, c5, rfl, -⟩⟩ := h
  have HFIN := Lib.hid (show ∀ W, B w W → SeePost w (r, 1) (.returned (.tuple #[.agg #[.int .i64 top, (.slice A1 r.first.length c1), (.slice A2 r.idle.length c2), (.slice A3 r.op.length c3), (.slice A4 r.gr.length c4), (.slice A5 r.en.length c5)], .int .i64 1])) W from fun W hb => ⟨_, _, _, _, _, by rw [← htop], ⟨HH.out.h1.below hb, HH.out.h2.below hb, HH.out.h3.below hb, HH.out.h4.below hb, HH.out.h5.below hb⟩, hb⟩)
  try rw [htop] at HFIN
  rw [htop]
  clear htop hf hr ht
  have HB0 := Lib.hid (B_alloc (B_alloc (B_alloc (B_refl w) (.cells #[.int .i64 top, (.slice A1 r.first.length c1), (.slice A2 r.idle.length c2), (.slice A3 r.op.length c3), (.slice A4 r.gr.length c4), (.slice A5 r.en.length c5)] 42)) (.cells #[.int .i64 (k), .int .i64 id, .int .i64 fk, .string data, .string text] 36)) (.cells #[.int .i64 0, .slice none 0 0, .slice none 0 0, .slice none 0 0, .slice none 0 0, .slice none 0 0] 42))
  have HW0 := Lib.hid (Blk.alloc (Blk.alloc (Blk.new w 42 #[.int .i64 top, (.slice A1 r.first.length c1), (.slice A2 r.idle.length c2), (.slice A3 r.op.length c3), (.slice A4 r.gr.length c4), (.slice A5 r.en.length c5)]) (.cells #[.int .i64 (k), .int .i64 id, .int .i64 fk, .string data, .string text] 36)) (.cells #[.int .i64 0, .slice none 0 0, .slice none 0 0, .slice none 0 0, .slice none 0 0, .slice none 0 0] 42))
  have HO0 := Lib.hid (Blk.alloc (show Blk ((w.alloc (.cells #[.int .i64 top, (.slice A1 r.first.length c1), (.slice A2 r.idle.length c2), (.slice A3 r.op.length c3), (.slice A4 r.gr.length c4), (.slice A5 r.en.length c5)] 42)).alloc (.cells #[.int .i64 (k), .int .i64 id, .int .i64 fk, .string data, .string text] 36)) (w.heap.size + 1) 36 #[.int .i64 (k), .int .i64 id, .int .i64 fk, .string data, .string text] from heap_at_new _ (by simp)) (.cells #[.int .i64 0, .slice none 0 0, .slice none 0 0, .slice none 0 0, .slice none 0 0, .slice none 0 0] 42))
  have HR0 := Lib.hid (show Blk (((w.alloc (.cells #[.int .i64 top, (.slice A1 r.first.length c1), (.slice A2 r.idle.length c2), (.slice A3 r.op.length c3), (.slice A4 r.gr.length c4), (.slice A5 r.en.length c5)] 42)).alloc (.cells #[.int .i64 (k), .int .i64 id, .int .i64 fk, .string data, .string text] 36)).alloc (.cells #[.int .i64 0, .slice none 0 0, .slice none 0 0, .slice none 0 0, .slice none 0 0, .slice none 0 0] 42)) (w.heap.size + 1 + 1) 42 #[.int .i64 0, .slice none 0 0, .slice none 0 0, .slice none 0 0, .slice none 0 0, .slice none 0 0] from heap_at_new _ (by simp))
  go_enter Try.func16, Try.ntmps16
  go_wp2_with fail
  refine (HRT.out _).mono ?_
  rintro e w1 ⟨rfl, b1⟩
  have B1 := Lib.hid (show B w w1 from B_trans HB0.out b1)
  have HW1 := Lib.hid (HW0.out.b b1)
  have HO1 := Lib.hid (HO0.out.b b1)
  have HR1 := Lib.hid (HR0.out.b b1)
  have hs1 : w.heap.size + 1 + 1 < w1.heap.size := HR1.out.lt
  clear b1 HRT HB0 HW0 HO0 HR0
  have aw := HW1.out
  have a0 := aw.cell 0
  have a1 := aw.cell 1
  have a2 := aw.cell 2
  have a3 := aw.cell 3
  have a4 := aw.cell 4
  have a5 := aw.cell 5
  have al := aw.lt
  have af := fun i => aw.frozen i
  simp at a0 a1 a2 a3 a4 a5
  clear aw
  have ew := HO1.out
  have e0 := ew.cell 0
  have e1 := ew.cell 1
  have e2 := ew.cell 2
  have el := ew.lt
  have ef := fun i => ew.frozen i
  simp at e0 e1 e2
  clear ew
  have zw := HR1.out
  have z0 := zw.cell 0
  have z1 := zw.cell 1
  have z2 := zw.cell 2
  have z3 := zw.cell 3
  have z4 := zw.cell 4
  have z5 := zw.cell 5
  have zl := zw.lt
  have zf := fun i => zw.frozen i
  simp at z0 z1 z2 z3 z4 z5
  clear zw
  go_wp2_with fail
  refine sees_end (by rfl) (by rfl) (show Blk _ (w.heap.size + 1 + 1) 42 #[.int .i64 top, (.slice A1 r.first.length c1), (.slice A2 r.idle.length c2), (.slice A3 r.op.length c3), (.slice A4 r.gr.length c4), (.slice A5 r.en.length c5)] from ((((((HR1.out.set_ 0 _).set_ 1 _).set_ 2 _).set_ 3 _).set_ 4 _).set_ 5 _)) ?_
  refine HFIN.out _ ?_
  · repeat (first | with_reducible exact B1.out | refine B_setCell ?_ (by first | (simp; done) | (simp; omega)) _ | refine B_drewN ?_ _ | refine B_drew ?_)
set_option maxRecDepth 100000 in
set_option maxHeartbeats 8000000 in
theorem see_0_en (w : World) (id fk : Int) (data text : ByteArray) (v1 v2 v3 v4 v5 : Value) (r : RW) (hf : Few r 1000) (h : RWV w v1 v2 v3 v4 v5 r) (ht : text.size ≤ 9999) (hr : rightV ⟨0, id, fk, data, text⟩ = true) (hen : decide (id ∈ r.en) = true) :
    Calls Try.prog 16 #[.agg #[.int .i64 r.top, v1, v2, v3, v4, v5], .agg #[.int .i64 (0), .int .i64 id, .int .i64 fk, .string data, .string text]] w (SeePost w (r, 5)) := by
  have HRT := Lib.hid (show ∀ W, Calls Try.prog 27 #[.agg #[.int .i64 (0), .int .i64 id, .int .i64 fk, .string data, .string text]] W fun e w' => e = .returned (.bool true) ∧ B W w' from fun W => by
    have := refright_any ⟨0, id, fk, data, text⟩ ht W
    rw [hr] at this
    exact this)
  have HEN := Lib.hid (fun W (hb : B w W) => has_v W v5 r.en id (by have := hf.l5; omega) (h.h5.below hb))
  have HTH := Lib.hid (fun W (hb : B w W) => there_any W r.top id v1 v2 v3 v4 v5 r hf (h.below hb))
  rw [hen] at HEN
  generalize thereR r id = qt at HTH
  have HGR := Lib.hid (fun W (hb : B w W) => has_v W v4 r.gr id (by have := hf.l4; omega) (h.h4.below hb))
  generalize decide (id ∈ r.gr) = qg at HGR
  obtain ⟨top, htop⟩ : ∃ top, r.top = top := ⟨_, rfl⟩
  have HH := Lib.hid h
  obtain ⟨⟨A1, c1, rfl, -⟩, ⟨A2, c2, rfl, -⟩, ⟨A3, c3, rfl, -⟩, ⟨A4, c4, rfl, -⟩, ⟨A5, c5, rfl, -⟩⟩ := h
  have HFIN := Lib.hid (show ∀ W, B w W → SeePost w (r, 5) (.returned (.tuple #[.agg #[.int .i64 top, (.slice A1 r.first.length c1), (.slice A2 r.idle.length c2), (.slice A3 r.op.length c3), (.slice A4 r.gr.length c4), (.slice A5 r.en.length c5)], .int .i64 5])) W from fun W hb => ⟨_, _, _, _, _, by rw [← htop], ⟨HH.out.h1.below hb, HH.out.h2.below hb, HH.out.h3.below hb, HH.out.h4.below hb, HH.out.h5.below hb⟩, hb⟩)
  try rw [htop] at HFIN
  rw [htop] at HTH ⊢
  clear htop hf hr ht
  have HB0 := Lib.hid (B_alloc (B_alloc (B_alloc (B_refl w) (.cells #[.int .i64 top, (.slice A1 r.first.length c1), (.slice A2 r.idle.length c2), (.slice A3 r.op.length c3), (.slice A4 r.gr.length c4), (.slice A5 r.en.length c5)] 42)) (.cells #[.int .i64 (0), .int .i64 id, .int .i64 fk, .string data, .string text] 36)) (.cells #[.int .i64 0, .slice none 0 0, .slice none 0 0, .slice none 0 0, .slice none 0 0, .slice none 0 0] 42))
  have HW0 := Lib.hid (Blk.alloc (Blk.alloc (Blk.new w 42 #[.int .i64 top, (.slice A1 r.first.length c1), (.slice A2 r.idle.length c2), (.slice A3 r.op.length c3), (.slice A4 r.gr.length c4), (.slice A5 r.en.length c5)]) (.cells #[.int .i64 (0), .int .i64 id, .int .i64 fk, .string data, .string text] 36)) (.cells #[.int .i64 0, .slice none 0 0, .slice none 0 0, .slice none 0 0, .slice none 0 0, .slice none 0 0] 42))
  have HO0 := Lib.hid (Blk.alloc (show Blk ((w.alloc (.cells #[.int .i64 top, (.slice A1 r.first.length c1), (.slice A2 r.idle.length c2), (.slice A3 r.op.length c3), (.slice A4 r.gr.length c4), (.slice A5 r.en.length c5)] 42)).alloc (.cells #[.int .i64 (0), .int .i64 id, .int .i64 fk, .string data, .string text] 36)) (w.heap.size + 1) 36 #[.int .i64 (0), .int .i64 id, .int .i64 fk, .string data, .string text] from heap_at_new _ (by simp)) (.cells #[.int .i64 0, .slice none 0 0, .slice none 0 0, .slice none 0 0, .slice none 0 0, .slice none 0 0] 42))
  have HR0 := Lib.hid (show Blk (((w.alloc (.cells #[.int .i64 top, (.slice A1 r.first.length c1), (.slice A2 r.idle.length c2), (.slice A3 r.op.length c3), (.slice A4 r.gr.length c4), (.slice A5 r.en.length c5)] 42)).alloc (.cells #[.int .i64 (0), .int .i64 id, .int .i64 fk, .string data, .string text] 36)).alloc (.cells #[.int .i64 0, .slice none 0 0, .slice none 0 0, .slice none 0 0, .slice none 0 0, .slice none 0 0] 42)) (w.heap.size + 1 + 1) 42 #[.int .i64 0, .slice none 0 0, .slice none 0 0, .slice none 0 0, .slice none 0 0, .slice none 0 0] from heap_at_new _ (by simp))
  go_enter Try.func16, Try.ntmps16
  go_wp2_with fail
  refine (HRT.out _).mono ?_
  rintro e w1 ⟨rfl, b1⟩
  have B1 := Lib.hid (show B w w1 from B_trans HB0.out b1)
  have HW1 := Lib.hid (HW0.out.b b1)
  have HO1 := Lib.hid (HO0.out.b b1)
  have HR1 := Lib.hid (HR0.out.b b1)
  have hs1 : w.heap.size + 1 + 1 < w1.heap.size := HR1.out.lt
  clear b1 HRT HB0 HW0 HO0 HR0
  have aw := HW1.out
  have a0 := aw.cell 0
  have a1 := aw.cell 1
  have a2 := aw.cell 2
  have a3 := aw.cell 3
  have a4 := aw.cell 4
  have a5 := aw.cell 5
  have al := aw.lt
  have af := fun i => aw.frozen i
  simp at a0 a1 a2 a3 a4 a5
  clear aw
  have ew := HO1.out
  have e0 := ew.cell 0
  have e1 := ew.cell 1
  have e2 := ew.cell 2
  have el := ew.lt
  have ef := fun i => ew.frozen i
  simp at e0 e1 e2
  clear ew
  have zw := HR1.out
  have z0 := zw.cell 0
  have z1 := zw.cell 1
  have z2 := zw.cell 2
  have z3 := zw.cell 3
  have z4 := zw.cell 4
  have z5 := zw.cell 5
  have zl := zw.lt
  have zf := fun i => zw.frozen i
  simp at z0 z1 z2 z3 z4 z5
  clear zw
  go_wp2_with fail
  refine (HEN.out _ (by repeat (first | with_reducible exact B1.out | refine B_setCell ?_ (by first | (simp; done) | (simp; omega)) _ | refine B_drewN ?_ _ | refine B_drew ?_))).mono ?_
  rintro e w2 ⟨rfl, rfl⟩
  go_wp2_with fail
  refine (HTH.out _ (by repeat (first | with_reducible exact B1.out | refine B_setCell ?_ (by first | (simp; done) | (simp; omega)) _ | refine B_drewN ?_ _ | refine B_drew ?_))).mono ?_
  rintro e w3 ⟨rfl, b3⟩
  have B3 := Lib.hid (show B w w3 from B_trans (by repeat (first | with_reducible exact B1.out | refine B_setCell ?_ (by first | (simp; done) | (simp; omega)) _ | refine B_drewN ?_ _ | refine B_drew ?_)) b3)
  have HW3 := Lib.hid (Blk.b (show Blk _ w.heap.size 42 #[.int .i64 top, (.slice A1 r.first.length c1), (.slice A2 r.idle.length c2), (.slice A3 r.op.length c3), (.slice A4 r.gr.length c4), (.slice A5 r.en.length c5)] by repeat (first | with_reducible exact HW1.out | refine Blk.drew ?_ | refine Blk.drewN ?_ _)) b3)
  have HO3 := Lib.hid (Blk.b (show Blk _ (w.heap.size + 1) 36 #[.int .i64 (0), .int .i64 id, .int .i64 fk, .string data, .string text] by repeat (first | with_reducible exact HO1.out | refine Blk.drew ?_ | refine Blk.drewN ?_ _)) b3)
  have HR3 := Lib.hid (Blk.b (show Blk _ (w.heap.size + 1 + 1) 42 #[.int .i64 0, .slice none 0 0, .slice none 0 0, .slice none 0 0, .slice none 0 0, .slice none 0 0] by repeat (first | with_reducible exact HR1.out | refine Blk.drew ?_ | refine Blk.drewN ?_ _)) b3)
  have hs3 : w.heap.size + 1 + 1 < w3.heap.size := HR3.out.lt
  clear a0 a1 a2 a3 a4 a5 al af
  clear e0 e1 e2 el ef
  clear z0 z1 z2 z3 z4 z5 zl zf
  clear b3 B1 HW1 HO1 HR1 hs1 HEN HTH
  have aw := HW3.out
  have a0 := aw.cell 0
  have a1 := aw.cell 1
  have a2 := aw.cell 2
  have a3 := aw.cell 3
  have a4 := aw.cell 4
  have a5 := aw.cell 5
  have al := aw.lt
  have af := fun i => aw.frozen i
  simp at a0 a1 a2 a3 a4 a5
  clear aw
  have ew := HO3.out
  have e0 := ew.cell 0
  have e1 := ew.cell 1
  have e2 := ew.cell 2
  have el := ew.lt
  have ef := fun i => ew.frozen i
  simp at e0 e1 e2
  clear ew
  have zw := HR3.out
  have z0 := zw.cell 0
  have z1 := zw.cell 1
  have z2 := zw.cell 2
  have z3 := zw.cell 3
  have z4 := zw.cell 4
  have z5 := zw.cell 5
  have zl := zw.lt
  have zf := fun i => zw.frozen i
  simp at z0 z1 z2 z3 z4 z5
  clear zw
  go_wp2_with fail
  refine (HGR.out _ (by repeat (first | with_reducible exact B3.out | refine B_setCell ?_ (by first | (simp; done) | (simp; omega)) _ | refine B_drewN ?_ _ | refine B_drew ?_))).mono ?_
  rintro e w4 ⟨rfl, rfl⟩
  go_wp2_with fail
  refine sees_end (by rfl) (by rfl) (show Blk _ (w.heap.size + 1 + 1) 42 #[.int .i64 top, (.slice A1 r.first.length c1), (.slice A2 r.idle.length c2), (.slice A3 r.op.length c3), (.slice A4 r.gr.length c4), (.slice A5 r.en.length c5)] from ((((((HR3.out.set_ 0 _).set_ 1 _).set_ 2 _).set_ 3 _).set_ 4 _).set_ 5 _)) ?_
  refine HFIN.out _ ?_
  · repeat (first | with_reducible exact B3.out | refine B_setCell ?_ (by first | (simp; done) | (simp; omega)) _ | refine B_drewN ?_ _ | refine B_drew ?_)
set_option maxRecDepth 100000 in
set_option maxHeartbeats 8000000 in
theorem see_0_kind (w : World) (id fk : Int) (data text : ByteArray) (v1 v2 v3 v4 v5 : Value) (r : RW) (hf : Few r 1000) (h : RWV w v1 v2 v3 v4 v5 r) (ht : text.size ≤ 9999) (hr : rightV ⟨0, id, fk, data, text⟩ = true) (hen : decide (id ∈ r.en) = false) (k1 : (fk != 1) = true) (k6 : (fk != 6) = true) (k7 : (fk != 7) = true) :
    Calls Try.prog 16 #[.agg #[.int .i64 r.top, v1, v2, v3, v4, v5], .agg #[.int .i64 (0), .int .i64 id, .int .i64 fk, .string data, .string text]] w (SeePost w (r, 4)) := by
  have HRT := Lib.hid (show ∀ W, Calls Try.prog 27 #[.agg #[.int .i64 (0), .int .i64 id, .int .i64 fk, .string data, .string text]] W fun e w' => e = .returned (.bool true) ∧ B W w' from fun W => by
    have := refright_any ⟨0, id, fk, data, text⟩ ht W
    rw [hr] at this
    exact this)
  have HEN := Lib.hid (fun W (hb : B w W) => has_v W v5 r.en id (by have := hf.l5; omega) (h.h5.below hb))
  have HTH := Lib.hid (fun W (hb : B w W) => there_any W r.top id v1 v2 v3 v4 v5 r hf (h.below hb))
  rw [hen] at HEN
  generalize thereR r id = qt at HTH
  have HGR := Lib.hid (fun W (hb : B w W) => has_v W v4 r.gr id (by have := hf.l4; omega) (h.h4.below hb))
  generalize decide (id ∈ r.gr) = qg at HGR
  obtain ⟨top, htop⟩ : ∃ top, r.top = top := ⟨_, rfl⟩
  have HH := Lib.hid h
  obtain ⟨⟨A1, c1, rfl, -⟩, ⟨A2, c2, rfl, -⟩, ⟨A3, c3, rfl, -⟩, ⟨A4, c4, rfl, -⟩, ⟨A5, c5, rfl, -⟩⟩ := h
  have HFIN := Lib.hid (show ∀ W, B w W → SeePost w (r, 4) (.returned (.tuple #[.agg #[.int .i64 top, (.slice A1 r.first.length c1), (.slice A2 r.idle.length c2), (.slice A3 r.op.length c3), (.slice A4 r.gr.length c4), (.slice A5 r.en.length c5)], .int .i64 4])) W from fun W hb => ⟨_, _, _, _, _, by rw [← htop], ⟨HH.out.h1.below hb, HH.out.h2.below hb, HH.out.h3.below hb, HH.out.h4.below hb, HH.out.h5.below hb⟩, hb⟩)
  try rw [htop] at HFIN
  rw [htop] at HTH ⊢
  clear htop hf hr ht
  have HB0 := Lib.hid (B_alloc (B_alloc (B_alloc (B_refl w) (.cells #[.int .i64 top, (.slice A1 r.first.length c1), (.slice A2 r.idle.length c2), (.slice A3 r.op.length c3), (.slice A4 r.gr.length c4), (.slice A5 r.en.length c5)] 42)) (.cells #[.int .i64 (0), .int .i64 id, .int .i64 fk, .string data, .string text] 36)) (.cells #[.int .i64 0, .slice none 0 0, .slice none 0 0, .slice none 0 0, .slice none 0 0, .slice none 0 0] 42))
  have HW0 := Lib.hid (Blk.alloc (Blk.alloc (Blk.new w 42 #[.int .i64 top, (.slice A1 r.first.length c1), (.slice A2 r.idle.length c2), (.slice A3 r.op.length c3), (.slice A4 r.gr.length c4), (.slice A5 r.en.length c5)]) (.cells #[.int .i64 (0), .int .i64 id, .int .i64 fk, .string data, .string text] 36)) (.cells #[.int .i64 0, .slice none 0 0, .slice none 0 0, .slice none 0 0, .slice none 0 0, .slice none 0 0] 42))
  have HO0 := Lib.hid (Blk.alloc (show Blk ((w.alloc (.cells #[.int .i64 top, (.slice A1 r.first.length c1), (.slice A2 r.idle.length c2), (.slice A3 r.op.length c3), (.slice A4 r.gr.length c4), (.slice A5 r.en.length c5)] 42)).alloc (.cells #[.int .i64 (0), .int .i64 id, .int .i64 fk, .string data, .string text] 36)) (w.heap.size + 1) 36 #[.int .i64 (0), .int .i64 id, .int .i64 fk, .string data, .string text] from heap_at_new _ (by simp)) (.cells #[.int .i64 0, .slice none 0 0, .slice none 0 0, .slice none 0 0, .slice none 0 0, .slice none 0 0] 42))
  have HR0 := Lib.hid (show Blk (((w.alloc (.cells #[.int .i64 top, (.slice A1 r.first.length c1), (.slice A2 r.idle.length c2), (.slice A3 r.op.length c3), (.slice A4 r.gr.length c4), (.slice A5 r.en.length c5)] 42)).alloc (.cells #[.int .i64 (0), .int .i64 id, .int .i64 fk, .string data, .string text] 36)).alloc (.cells #[.int .i64 0, .slice none 0 0, .slice none 0 0, .slice none 0 0, .slice none 0 0, .slice none 0 0] 42)) (w.heap.size + 1 + 1) 42 #[.int .i64 0, .slice none 0 0, .slice none 0 0, .slice none 0 0, .slice none 0 0, .slice none 0 0] from heap_at_new _ (by simp))
  go_enter Try.func16, Try.ntmps16
  go_wp2_with fail
  refine (HRT.out _).mono ?_
  rintro e w1 ⟨rfl, b1⟩
  have B1 := Lib.hid (show B w w1 from B_trans HB0.out b1)
  have HW1 := Lib.hid (HW0.out.b b1)
  have HO1 := Lib.hid (HO0.out.b b1)
  have HR1 := Lib.hid (HR0.out.b b1)
  have hs1 : w.heap.size + 1 + 1 < w1.heap.size := HR1.out.lt
  clear b1 HRT HB0 HW0 HO0 HR0
  have aw := HW1.out
  have a0 := aw.cell 0
  have a1 := aw.cell 1
  have a2 := aw.cell 2
  have a3 := aw.cell 3
  have a4 := aw.cell 4
  have a5 := aw.cell 5
  have al := aw.lt
  have af := fun i => aw.frozen i
  simp at a0 a1 a2 a3 a4 a5
  clear aw
  have ew := HO1.out
  have e0 := ew.cell 0
  have e1 := ew.cell 1
  have e2 := ew.cell 2
  have el := ew.lt
  have ef := fun i => ew.frozen i
  simp at e0 e1 e2
  clear ew
  have zw := HR1.out
  have z0 := zw.cell 0
  have z1 := zw.cell 1
  have z2 := zw.cell 2
  have z3 := zw.cell 3
  have z4 := zw.cell 4
  have z5 := zw.cell 5
  have zl := zw.lt
  have zf := fun i => zw.frozen i
  simp at z0 z1 z2 z3 z4 z5
  clear zw
  go_wp2_with fail
  refine (HEN.out _ (by repeat (first | with_reducible exact B1.out | refine B_setCell ?_ (by first | (simp; done) | (simp; omega)) _ | refine B_drewN ?_ _ | refine B_drew ?_))).mono ?_
  rintro e w2 ⟨rfl, rfl⟩
  go_wp2_with fail
  refine (HTH.out _ (by repeat (first | with_reducible exact B1.out | refine B_setCell ?_ (by first | (simp; done) | (simp; omega)) _ | refine B_drewN ?_ _ | refine B_drew ?_))).mono ?_
  rintro e w3 ⟨rfl, b3⟩
  have B3 := Lib.hid (show B w w3 from B_trans (by repeat (first | with_reducible exact B1.out | refine B_setCell ?_ (by first | (simp; done) | (simp; omega)) _ | refine B_drewN ?_ _ | refine B_drew ?_)) b3)
  have HW3 := Lib.hid (Blk.b (show Blk _ w.heap.size 42 #[.int .i64 top, (.slice A1 r.first.length c1), (.slice A2 r.idle.length c2), (.slice A3 r.op.length c3), (.slice A4 r.gr.length c4), (.slice A5 r.en.length c5)] by repeat (first | with_reducible exact HW1.out | refine Blk.drew ?_ | refine Blk.drewN ?_ _)) b3)
  have HO3 := Lib.hid (Blk.b (show Blk _ (w.heap.size + 1) 36 #[.int .i64 (0), .int .i64 id, .int .i64 fk, .string data, .string text] by repeat (first | with_reducible exact HO1.out | refine Blk.drew ?_ | refine Blk.drewN ?_ _)) b3)
  have HR3 := Lib.hid (Blk.b (show Blk _ (w.heap.size + 1 + 1) 42 #[.int .i64 0, .slice none 0 0, .slice none 0 0, .slice none 0 0, .slice none 0 0, .slice none 0 0] by repeat (first | with_reducible exact HR1.out | refine Blk.drew ?_ | refine Blk.drewN ?_ _)) b3)
  have hs3 : w.heap.size + 1 + 1 < w3.heap.size := HR3.out.lt
  clear a0 a1 a2 a3 a4 a5 al af
  clear e0 e1 e2 el ef
  clear z0 z1 z2 z3 z4 z5 zl zf
  clear b3 B1 HW1 HO1 HR1 hs1 HEN HTH
  have aw := HW3.out
  have a0 := aw.cell 0
  have a1 := aw.cell 1
  have a2 := aw.cell 2
  have a3 := aw.cell 3
  have a4 := aw.cell 4
  have a5 := aw.cell 5
  have al := aw.lt
  have af := fun i => aw.frozen i
  simp at a0 a1 a2 a3 a4 a5
  clear aw
  have ew := HO3.out
  have e0 := ew.cell 0
  have e1 := ew.cell 1
  have e2 := ew.cell 2
  have el := ew.lt
  have ef := fun i => ew.frozen i
  simp at e0 e1 e2
  clear ew
  have zw := HR3.out
  have z0 := zw.cell 0
  have z1 := zw.cell 1
  have z2 := zw.cell 2
  have z3 := zw.cell 3
  have z4 := zw.cell 4
  have z5 := zw.cell 5
  have zl := zw.lt
  have zf := fun i => zw.frozen i
  simp at z0 z1 z2 z3 z4 z5
  clear zw
  go_wp2_with fail
  refine (HGR.out _ (by repeat (first | with_reducible exact B3.out | refine B_setCell ?_ (by first | (simp; done) | (simp; omega)) _ | refine B_drewN ?_ _ | refine B_drew ?_))).mono ?_
  rintro e w4 ⟨rfl, rfl⟩
  go_wp2_with fail
  refine sees_end (by rfl) (by rfl) (show Blk _ (w.heap.size + 1 + 1) 42 #[.int .i64 top, (.slice A1 r.first.length c1), (.slice A2 r.idle.length c2), (.slice A3 r.op.length c3), (.slice A4 r.gr.length c4), (.slice A5 r.en.length c5)] from ((((((HR3.out.set_ 0 _).set_ 1 _).set_ 2 _).set_ 3 _).set_ 4 _).set_ 5 _)) ?_
  refine HFIN.out _ ?_
  · repeat (first | with_reducible exact B3.out | refine B_setCell ?_ (by first | (simp; done) | (simp; omega)) _ | refine B_drewN ?_ _ | refine B_drew ?_)
set_option maxRecDepth 100000 in
set_option maxHeartbeats 8000000 in
theorem see_0_there (w : World) (id fk : Int) (data text : ByteArray) (v1 v2 v3 v4 v5 : Value) (r : RW) (hf : Few r 1000) (h : RWV w v1 v2 v3 v4 v5 r) (ht : text.size ≤ 9999) (hr : rightV ⟨0, id, fk, data, text⟩ = true) (hen : decide (id ∈ r.en) = false) (hgr : decide (id ∈ r.gr) = true) (k1 : (fk != 1) = false) (j1 : (fk == 1) = true) :
    Calls Try.prog 16 #[.agg #[.int .i64 r.top, v1, v2, v3, v4, v5], .agg #[.int .i64 (0), .int .i64 id, .int .i64 fk, .string data, .string text]] w (SeePost w (r, 6)) := by
  have HRT := Lib.hid (show ∀ W, Calls Try.prog 27 #[.agg #[.int .i64 (0), .int .i64 id, .int .i64 fk, .string data, .string text]] W fun e w' => e = .returned (.bool true) ∧ B W w' from fun W => by
    have := refright_any ⟨0, id, fk, data, text⟩ ht W
    rw [hr] at this
    exact this)
  have HEN := Lib.hid (fun W (hb : B w W) => has_v W v5 r.en id (by have := hf.l5; omega) (h.h5.below hb))
  have HTH := Lib.hid (fun W (hb : B w W) => there_any W r.top id v1 v2 v3 v4 v5 r hf (h.below hb))
  rw [hen] at HEN
  generalize thereR r id = qt at HTH
  have HGR := Lib.hid (fun W (hb : B w W) => has_v W v4 r.gr id (by have := hf.l4; omega) (h.h4.below hb))
  rw [hgr] at HGR
  obtain ⟨top, htop⟩ : ∃ top, r.top = top := ⟨_, rfl⟩
  have HH := Lib.hid h
  obtain ⟨⟨A1, c1, rfl, -⟩, ⟨A2, c2, rfl, -⟩, ⟨A3, c3, rfl, -⟩, ⟨A4, c4, rfl, -⟩, ⟨A5, c5, rfl, -⟩⟩ := h
  have HFIN := Lib.hid (show ∀ W, B w W → SeePost w (r, 6) (.returned (.tuple #[.agg #[.int .i64 top, (.slice A1 r.first.length c1), (.slice A2 r.idle.length c2), (.slice A3 r.op.length c3), (.slice A4 r.gr.length c4), (.slice A5 r.en.length c5)], .int .i64 6])) W from fun W hb => ⟨_, _, _, _, _, by rw [← htop], ⟨HH.out.h1.below hb, HH.out.h2.below hb, HH.out.h3.below hb, HH.out.h4.below hb, HH.out.h5.below hb⟩, hb⟩)
  try rw [htop] at HFIN
  rw [htop] at HTH ⊢
  clear htop hf hr ht
  have HB0 := Lib.hid (B_alloc (B_alloc (B_alloc (B_refl w) (.cells #[.int .i64 top, (.slice A1 r.first.length c1), (.slice A2 r.idle.length c2), (.slice A3 r.op.length c3), (.slice A4 r.gr.length c4), (.slice A5 r.en.length c5)] 42)) (.cells #[.int .i64 (0), .int .i64 id, .int .i64 fk, .string data, .string text] 36)) (.cells #[.int .i64 0, .slice none 0 0, .slice none 0 0, .slice none 0 0, .slice none 0 0, .slice none 0 0] 42))
  have HW0 := Lib.hid (Blk.alloc (Blk.alloc (Blk.new w 42 #[.int .i64 top, (.slice A1 r.first.length c1), (.slice A2 r.idle.length c2), (.slice A3 r.op.length c3), (.slice A4 r.gr.length c4), (.slice A5 r.en.length c5)]) (.cells #[.int .i64 (0), .int .i64 id, .int .i64 fk, .string data, .string text] 36)) (.cells #[.int .i64 0, .slice none 0 0, .slice none 0 0, .slice none 0 0, .slice none 0 0, .slice none 0 0] 42))
  have HO0 := Lib.hid (Blk.alloc (show Blk ((w.alloc (.cells #[.int .i64 top, (.slice A1 r.first.length c1), (.slice A2 r.idle.length c2), (.slice A3 r.op.length c3), (.slice A4 r.gr.length c4), (.slice A5 r.en.length c5)] 42)).alloc (.cells #[.int .i64 (0), .int .i64 id, .int .i64 fk, .string data, .string text] 36)) (w.heap.size + 1) 36 #[.int .i64 (0), .int .i64 id, .int .i64 fk, .string data, .string text] from heap_at_new _ (by simp)) (.cells #[.int .i64 0, .slice none 0 0, .slice none 0 0, .slice none 0 0, .slice none 0 0, .slice none 0 0] 42))
  have HR0 := Lib.hid (show Blk (((w.alloc (.cells #[.int .i64 top, (.slice A1 r.first.length c1), (.slice A2 r.idle.length c2), (.slice A3 r.op.length c3), (.slice A4 r.gr.length c4), (.slice A5 r.en.length c5)] 42)).alloc (.cells #[.int .i64 (0), .int .i64 id, .int .i64 fk, .string data, .string text] 36)).alloc (.cells #[.int .i64 0, .slice none 0 0, .slice none 0 0, .slice none 0 0, .slice none 0 0, .slice none 0 0] 42)) (w.heap.size + 1 + 1) 42 #[.int .i64 0, .slice none 0 0, .slice none 0 0, .slice none 0 0, .slice none 0 0, .slice none 0 0] from heap_at_new _ (by simp))
  go_enter Try.func16, Try.ntmps16
  go_wp2_with fail
  refine (HRT.out _).mono ?_
  rintro e w1 ⟨rfl, b1⟩
  have B1 := Lib.hid (show B w w1 from B_trans HB0.out b1)
  have HW1 := Lib.hid (HW0.out.b b1)
  have HO1 := Lib.hid (HO0.out.b b1)
  have HR1 := Lib.hid (HR0.out.b b1)
  have hs1 : w.heap.size + 1 + 1 < w1.heap.size := HR1.out.lt
  clear b1 HRT HB0 HW0 HO0 HR0
  have aw := HW1.out
  have a0 := aw.cell 0
  have a1 := aw.cell 1
  have a2 := aw.cell 2
  have a3 := aw.cell 3
  have a4 := aw.cell 4
  have a5 := aw.cell 5
  have al := aw.lt
  have af := fun i => aw.frozen i
  simp at a0 a1 a2 a3 a4 a5
  clear aw
  have ew := HO1.out
  have e0 := ew.cell 0
  have e1 := ew.cell 1
  have e2 := ew.cell 2
  have el := ew.lt
  have ef := fun i => ew.frozen i
  simp at e0 e1 e2
  clear ew
  have zw := HR1.out
  have z0 := zw.cell 0
  have z1 := zw.cell 1
  have z2 := zw.cell 2
  have z3 := zw.cell 3
  have z4 := zw.cell 4
  have z5 := zw.cell 5
  have zl := zw.lt
  have zf := fun i => zw.frozen i
  simp at z0 z1 z2 z3 z4 z5
  clear zw
  go_wp2_with fail
  refine (HEN.out _ (by repeat (first | with_reducible exact B1.out | refine B_setCell ?_ (by first | (simp; done) | (simp; omega)) _ | refine B_drewN ?_ _ | refine B_drew ?_))).mono ?_
  rintro e w2 ⟨rfl, rfl⟩
  go_wp2_with fail
  refine (HTH.out _ (by repeat (first | with_reducible exact B1.out | refine B_setCell ?_ (by first | (simp; done) | (simp; omega)) _ | refine B_drewN ?_ _ | refine B_drew ?_))).mono ?_
  rintro e w3 ⟨rfl, b3⟩
  have B3 := Lib.hid (show B w w3 from B_trans (by repeat (first | with_reducible exact B1.out | refine B_setCell ?_ (by first | (simp; done) | (simp; omega)) _ | refine B_drewN ?_ _ | refine B_drew ?_)) b3)
  have HW3 := Lib.hid (Blk.b (show Blk _ w.heap.size 42 #[.int .i64 top, (.slice A1 r.first.length c1), (.slice A2 r.idle.length c2), (.slice A3 r.op.length c3), (.slice A4 r.gr.length c4), (.slice A5 r.en.length c5)] by repeat (first | with_reducible exact HW1.out | refine Blk.drew ?_ | refine Blk.drewN ?_ _)) b3)
  have HO3 := Lib.hid (Blk.b (show Blk _ (w.heap.size + 1) 36 #[.int .i64 (0), .int .i64 id, .int .i64 fk, .string data, .string text] by repeat (first | with_reducible exact HO1.out | refine Blk.drew ?_ | refine Blk.drewN ?_ _)) b3)
  have HR3 := Lib.hid (Blk.b (show Blk _ (w.heap.size + 1 + 1) 42 #[.int .i64 0, .slice none 0 0, .slice none 0 0, .slice none 0 0, .slice none 0 0, .slice none 0 0] by repeat (first | with_reducible exact HR1.out | refine Blk.drew ?_ | refine Blk.drewN ?_ _)) b3)
  have hs3 : w.heap.size + 1 + 1 < w3.heap.size := HR3.out.lt
  clear a0 a1 a2 a3 a4 a5 al af
  clear e0 e1 e2 el ef
  clear z0 z1 z2 z3 z4 z5 zl zf
  clear b3 B1 HW1 HO1 HR1 hs1 HEN HTH
  have aw := HW3.out
  have a0 := aw.cell 0
  have a1 := aw.cell 1
  have a2 := aw.cell 2
  have a3 := aw.cell 3
  have a4 := aw.cell 4
  have a5 := aw.cell 5
  have al := aw.lt
  have af := fun i => aw.frozen i
  simp at a0 a1 a2 a3 a4 a5
  clear aw
  have ew := HO3.out
  have e0 := ew.cell 0
  have e1 := ew.cell 1
  have e2 := ew.cell 2
  have el := ew.lt
  have ef := fun i => ew.frozen i
  simp at e0 e1 e2
  clear ew
  have zw := HR3.out
  have z0 := zw.cell 0
  have z1 := zw.cell 1
  have z2 := zw.cell 2
  have z3 := zw.cell 3
  have z4 := zw.cell 4
  have z5 := zw.cell 5
  have zl := zw.lt
  have zf := fun i => zw.frozen i
  simp at z0 z1 z2 z3 z4 z5
  clear zw
  go_wp2_with fail
  refine (HGR.out _ (by repeat (first | with_reducible exact B3.out | refine B_setCell ?_ (by first | (simp; done) | (simp; omega)) _ | refine B_drewN ?_ _ | refine B_drew ?_))).mono ?_
  rintro e w4 ⟨rfl, rfl⟩
  go_wp2_with fail
  refine sees_end (by rfl) (by rfl) (show Blk _ (w.heap.size + 1 + 1) 42 #[.int .i64 top, (.slice A1 r.first.length c1), (.slice A2 r.idle.length c2), (.slice A3 r.op.length c3), (.slice A4 r.gr.length c4), (.slice A5 r.en.length c5)] from ((((((HR3.out.set_ 0 _).set_ 1 _).set_ 2 _).set_ 3 _).set_ 4 _).set_ 5 _)) ?_
  refine HFIN.out _ ?_
  · repeat (first | with_reducible exact B3.out | refine B_setCell ?_ (by first | (simp; done) | (simp; omega)) _ | refine B_drewN ?_ _ | refine B_drew ?_)
set_option maxRecDepth 100000 in
set_option maxHeartbeats 8000000 in
theorem see_0_state (w : World) (id fk : Int) (data text : ByteArray) (v1 v2 v3 v4 v5 : Value) (r : RW) (hf : Few r 1000) (h : RWV w v1 v2 v3 v4 v5 r) (ht : text.size ≤ 9999) (hr : rightV ⟨0, id, fk, data, text⟩ = true) (hen : decide (id ∈ r.en) = false) (hgr : decide (id ∈ r.gr) = false) (k1 : (fk != 1) = true) (j1 : (fk == 1) = false) (k6 : (fk != 6) = false) (j6 : (fk == 6) = true) :
    Calls Try.prog 16 #[.agg #[.int .i64 r.top, v1, v2, v3, v4, v5], .agg #[.int .i64 (0), .int .i64 id, .int .i64 fk, .string data, .string text]] w (SeePost w (r, 8)) := by
  have HRT := Lib.hid (show ∀ W, Calls Try.prog 27 #[.agg #[.int .i64 (0), .int .i64 id, .int .i64 fk, .string data, .string text]] W fun e w' => e = .returned (.bool true) ∧ B W w' from fun W => by
    have := refright_any ⟨0, id, fk, data, text⟩ ht W
    rw [hr] at this
    exact this)
  have HEN := Lib.hid (fun W (hb : B w W) => has_v W v5 r.en id (by have := hf.l5; omega) (h.h5.below hb))
  have HTH := Lib.hid (fun W (hb : B w W) => there_any W r.top id v1 v2 v3 v4 v5 r hf (h.below hb))
  rw [hen] at HEN
  generalize thereR r id = qt at HTH
  have HGR := Lib.hid (fun W (hb : B w W) => has_v W v4 r.gr id (by have := hf.l4; omega) (h.h4.below hb))
  rw [hgr] at HGR
  obtain ⟨top, htop⟩ : ∃ top, r.top = top := ⟨_, rfl⟩
  have HH := Lib.hid h
  obtain ⟨⟨A1, c1, rfl, -⟩, ⟨A2, c2, rfl, -⟩, ⟨A3, c3, rfl, -⟩, ⟨A4, c4, rfl, -⟩, ⟨A5, c5, rfl, -⟩⟩ := h
  have HFIN := Lib.hid (show ∀ W, B w W → SeePost w (r, 8) (.returned (.tuple #[.agg #[.int .i64 top, (.slice A1 r.first.length c1), (.slice A2 r.idle.length c2), (.slice A3 r.op.length c3), (.slice A4 r.gr.length c4), (.slice A5 r.en.length c5)], .int .i64 8])) W from fun W hb => ⟨_, _, _, _, _, by rw [← htop], ⟨HH.out.h1.below hb, HH.out.h2.below hb, HH.out.h3.below hb, HH.out.h4.below hb, HH.out.h5.below hb⟩, hb⟩)
  try rw [htop] at HFIN
  rw [htop] at HTH ⊢
  clear htop hf hr ht
  have HB0 := Lib.hid (B_alloc (B_alloc (B_alloc (B_refl w) (.cells #[.int .i64 top, (.slice A1 r.first.length c1), (.slice A2 r.idle.length c2), (.slice A3 r.op.length c3), (.slice A4 r.gr.length c4), (.slice A5 r.en.length c5)] 42)) (.cells #[.int .i64 (0), .int .i64 id, .int .i64 fk, .string data, .string text] 36)) (.cells #[.int .i64 0, .slice none 0 0, .slice none 0 0, .slice none 0 0, .slice none 0 0, .slice none 0 0] 42))
  have HW0 := Lib.hid (Blk.alloc (Blk.alloc (Blk.new w 42 #[.int .i64 top, (.slice A1 r.first.length c1), (.slice A2 r.idle.length c2), (.slice A3 r.op.length c3), (.slice A4 r.gr.length c4), (.slice A5 r.en.length c5)]) (.cells #[.int .i64 (0), .int .i64 id, .int .i64 fk, .string data, .string text] 36)) (.cells #[.int .i64 0, .slice none 0 0, .slice none 0 0, .slice none 0 0, .slice none 0 0, .slice none 0 0] 42))
  have HO0 := Lib.hid (Blk.alloc (show Blk ((w.alloc (.cells #[.int .i64 top, (.slice A1 r.first.length c1), (.slice A2 r.idle.length c2), (.slice A3 r.op.length c3), (.slice A4 r.gr.length c4), (.slice A5 r.en.length c5)] 42)).alloc (.cells #[.int .i64 (0), .int .i64 id, .int .i64 fk, .string data, .string text] 36)) (w.heap.size + 1) 36 #[.int .i64 (0), .int .i64 id, .int .i64 fk, .string data, .string text] from heap_at_new _ (by simp)) (.cells #[.int .i64 0, .slice none 0 0, .slice none 0 0, .slice none 0 0, .slice none 0 0, .slice none 0 0] 42))
  have HR0 := Lib.hid (show Blk (((w.alloc (.cells #[.int .i64 top, (.slice A1 r.first.length c1), (.slice A2 r.idle.length c2), (.slice A3 r.op.length c3), (.slice A4 r.gr.length c4), (.slice A5 r.en.length c5)] 42)).alloc (.cells #[.int .i64 (0), .int .i64 id, .int .i64 fk, .string data, .string text] 36)).alloc (.cells #[.int .i64 0, .slice none 0 0, .slice none 0 0, .slice none 0 0, .slice none 0 0, .slice none 0 0] 42)) (w.heap.size + 1 + 1) 42 #[.int .i64 0, .slice none 0 0, .slice none 0 0, .slice none 0 0, .slice none 0 0, .slice none 0 0] from heap_at_new _ (by simp))
  go_enter Try.func16, Try.ntmps16
  go_wp2_with fail
  refine (HRT.out _).mono ?_
  rintro e w1 ⟨rfl, b1⟩
  have B1 := Lib.hid (show B w w1 from B_trans HB0.out b1)
  have HW1 := Lib.hid (HW0.out.b b1)
  have HO1 := Lib.hid (HO0.out.b b1)
  have HR1 := Lib.hid (HR0.out.b b1)
  have hs1 : w.heap.size + 1 + 1 < w1.heap.size := HR1.out.lt
  clear b1 HRT HB0 HW0 HO0 HR0
  have aw := HW1.out
  have a0 := aw.cell 0
  have a1 := aw.cell 1
  have a2 := aw.cell 2
  have a3 := aw.cell 3
  have a4 := aw.cell 4
  have a5 := aw.cell 5
  have al := aw.lt
  have af := fun i => aw.frozen i
  simp at a0 a1 a2 a3 a4 a5
  clear aw
  have ew := HO1.out
  have e0 := ew.cell 0
  have e1 := ew.cell 1
  have e2 := ew.cell 2
  have el := ew.lt
  have ef := fun i => ew.frozen i
  simp at e0 e1 e2
  clear ew
  have zw := HR1.out
  have z0 := zw.cell 0
  have z1 := zw.cell 1
  have z2 := zw.cell 2
  have z3 := zw.cell 3
  have z4 := zw.cell 4
  have z5 := zw.cell 5
  have zl := zw.lt
  have zf := fun i => zw.frozen i
  simp at z0 z1 z2 z3 z4 z5
  clear zw
  go_wp2_with fail
  refine (HEN.out _ (by repeat (first | with_reducible exact B1.out | refine B_setCell ?_ (by first | (simp; done) | (simp; omega)) _ | refine B_drewN ?_ _ | refine B_drew ?_))).mono ?_
  rintro e w2 ⟨rfl, rfl⟩
  go_wp2_with fail
  refine (HTH.out _ (by repeat (first | with_reducible exact B1.out | refine B_setCell ?_ (by first | (simp; done) | (simp; omega)) _ | refine B_drewN ?_ _ | refine B_drew ?_))).mono ?_
  rintro e w3 ⟨rfl, b3⟩
  have B3 := Lib.hid (show B w w3 from B_trans (by repeat (first | with_reducible exact B1.out | refine B_setCell ?_ (by first | (simp; done) | (simp; omega)) _ | refine B_drewN ?_ _ | refine B_drew ?_)) b3)
  have HW3 := Lib.hid (Blk.b (show Blk _ w.heap.size 42 #[.int .i64 top, (.slice A1 r.first.length c1), (.slice A2 r.idle.length c2), (.slice A3 r.op.length c3), (.slice A4 r.gr.length c4), (.slice A5 r.en.length c5)] by repeat (first | with_reducible exact HW1.out | refine Blk.drew ?_ | refine Blk.drewN ?_ _)) b3)
  have HO3 := Lib.hid (Blk.b (show Blk _ (w.heap.size + 1) 36 #[.int .i64 (0), .int .i64 id, .int .i64 fk, .string data, .string text] by repeat (first | with_reducible exact HO1.out | refine Blk.drew ?_ | refine Blk.drewN ?_ _)) b3)
  have HR3 := Lib.hid (Blk.b (show Blk _ (w.heap.size + 1 + 1) 42 #[.int .i64 0, .slice none 0 0, .slice none 0 0, .slice none 0 0, .slice none 0 0, .slice none 0 0] by repeat (first | with_reducible exact HR1.out | refine Blk.drew ?_ | refine Blk.drewN ?_ _)) b3)
  have hs3 : w.heap.size + 1 + 1 < w3.heap.size := HR3.out.lt
  clear a0 a1 a2 a3 a4 a5 al af
  clear e0 e1 e2 el ef
  clear z0 z1 z2 z3 z4 z5 zl zf
  clear b3 B1 HW1 HO1 HR1 hs1 HEN HTH
  have aw := HW3.out
  have a0 := aw.cell 0
  have a1 := aw.cell 1
  have a2 := aw.cell 2
  have a3 := aw.cell 3
  have a4 := aw.cell 4
  have a5 := aw.cell 5
  have al := aw.lt
  have af := fun i => aw.frozen i
  simp at a0 a1 a2 a3 a4 a5
  clear aw
  have ew := HO3.out
  have e0 := ew.cell 0
  have e1 := ew.cell 1
  have e2 := ew.cell 2
  have el := ew.lt
  have ef := fun i => ew.frozen i
  simp at e0 e1 e2
  clear ew
  have zw := HR3.out
  have z0 := zw.cell 0
  have z1 := zw.cell 1
  have z2 := zw.cell 2
  have z3 := zw.cell 3
  have z4 := zw.cell 4
  have z5 := zw.cell 5
  have zl := zw.lt
  have zf := fun i => zw.frozen i
  simp at z0 z1 z2 z3 z4 z5
  clear zw
  go_wp2_with fail
  refine (HGR.out _ (by repeat (first | with_reducible exact B3.out | refine B_setCell ?_ (by first | (simp; done) | (simp; omega)) _ | refine B_drewN ?_ _ | refine B_drew ?_))).mono ?_
  rintro e w4 ⟨rfl, rfl⟩
  go_wp2_with fail
  refine sees_end (by rfl) (by rfl) (show Blk _ (w.heap.size + 1 + 1) 42 #[.int .i64 top, (.slice A1 r.first.length c1), (.slice A2 r.idle.length c2), (.slice A3 r.op.length c3), (.slice A4 r.gr.length c4), (.slice A5 r.en.length c5)] from ((((((HR3.out.set_ 0 _).set_ 1 _).set_ 2 _).set_ 3 _).set_ 4 _).set_ 5 _)) ?_
  refine HFIN.out _ ?_
  · repeat (first | with_reducible exact B3.out | refine B_setCell ?_ (by first | (simp; done) | (simp; omega)) _ | refine B_drewN ?_ _ | refine B_drew ?_)
set_option maxRecDepth 100000 in
set_option maxHeartbeats 8000000 in
theorem see_0_hello (w : World) (id fk : Int) (data text : ByteArray) (v1 v2 v3 v4 v5 : Value) (r : RW) (hf : Few r 1000) (h : RWV w v1 v2 v3 v4 v5 r) (ht : text.size ≤ 9999) (hr : rightV ⟨0, id, fk, data, text⟩ = true) (hen : decide (id ∈ r.en) = false) (hgr : decide (id ∈ r.gr) = false) (k1 : (fk != 1) = false) (j1 : (fk == 1) = true) (j6 : (fk == 6) = false) :
    Calls Try.prog 16 #[.agg #[.int .i64 r.top, v1, v2, v3, v4, v5], .agg #[.int .i64 (0), .int .i64 id, .int .i64 fk, .string data, .string text]] w (SeePost w (({ r with gr := r.gr ++ [id] } : RW), 0)) := by
  have HRT := Lib.hid (show ∀ W, Calls Try.prog 27 #[.agg #[.int .i64 (0), .int .i64 id, .int .i64 fk, .string data, .string text]] W fun e w' => e = .returned (.bool true) ∧ B W w' from fun W => by
    have := refright_any ⟨0, id, fk, data, text⟩ ht W
    rw [hr] at this
    exact this)
  have HEN := Lib.hid (fun W (hb : B w W) => has_v W v5 r.en id (by have := hf.l5; omega) (h.h5.below hb))
  have HTH := Lib.hid (fun W (hb : B w W) => there_any W r.top id v1 v2 v3 v4 v5 r hf (h.below hb))
  rw [hen] at HEN
  generalize thereR r id = qt at HTH
  have HGR := Lib.hid (fun W (hb : B w W) => has_v W v4 r.gr id (by have := hf.l4; omega) (h.h4.below hb))
  rw [hgr] at HGR
  have HL0 := Lib.hid (fun W (hb : B w W) => more_v W v4 r.gr id (by have := hf.l4; omega) (h.h4.below hb))
  unfold ToL at HL0
  obtain ⟨top, htop⟩ : ∃ top, r.top = top := ⟨_, rfl⟩
  have HH := Lib.hid h
  obtain ⟨⟨A1, c1, rfl, -⟩, ⟨A2, c2, rfl, -⟩, ⟨A3, c3, rfl, -⟩, ⟨A4, c4, rfl, -⟩, ⟨A5, c5, rfl, -⟩⟩ := h
  have HFIN := Lib.hid (show ∀ W B0 d0' n0, IsL W (.slice B0 n0 d0') (r.gr ++ [id]) → B w W → SeePost w (({ r with gr := r.gr ++ [id] } : RW), 0) (.returned (.tuple #[.agg #[.int .i64 top, (.slice A1 r.first.length c1), (.slice A2 r.idle.length c2), (.slice A3 r.op.length c3), (.slice B0 n0 d0'), (.slice A5 r.en.length c5)], .int .i64 0])) W from fun W B0 d0' n0 q0 hb => ⟨_, _, _, _, _, by rw [← htop], ⟨HH.out.h1.below hb, HH.out.h2.below hb, HH.out.h3.below hb, q0, HH.out.h5.below hb⟩, hb⟩)
  try rw [htop] at HFIN
  rw [htop] at HTH ⊢
  clear htop hf hr ht
  have HB0 := Lib.hid (B_alloc (B_alloc (B_alloc (B_refl w) (.cells #[.int .i64 top, (.slice A1 r.first.length c1), (.slice A2 r.idle.length c2), (.slice A3 r.op.length c3), (.slice A4 r.gr.length c4), (.slice A5 r.en.length c5)] 42)) (.cells #[.int .i64 (0), .int .i64 id, .int .i64 fk, .string data, .string text] 36)) (.cells #[.int .i64 0, .slice none 0 0, .slice none 0 0, .slice none 0 0, .slice none 0 0, .slice none 0 0] 42))
  have HW0 := Lib.hid (Blk.alloc (Blk.alloc (Blk.new w 42 #[.int .i64 top, (.slice A1 r.first.length c1), (.slice A2 r.idle.length c2), (.slice A3 r.op.length c3), (.slice A4 r.gr.length c4), (.slice A5 r.en.length c5)]) (.cells #[.int .i64 (0), .int .i64 id, .int .i64 fk, .string data, .string text] 36)) (.cells #[.int .i64 0, .slice none 0 0, .slice none 0 0, .slice none 0 0, .slice none 0 0, .slice none 0 0] 42))
  have HO0 := Lib.hid (Blk.alloc (show Blk ((w.alloc (.cells #[.int .i64 top, (.slice A1 r.first.length c1), (.slice A2 r.idle.length c2), (.slice A3 r.op.length c3), (.slice A4 r.gr.length c4), (.slice A5 r.en.length c5)] 42)).alloc (.cells #[.int .i64 (0), .int .i64 id, .int .i64 fk, .string data, .string text] 36)) (w.heap.size + 1) 36 #[.int .i64 (0), .int .i64 id, .int .i64 fk, .string data, .string text] from heap_at_new _ (by simp)) (.cells #[.int .i64 0, .slice none 0 0, .slice none 0 0, .slice none 0 0, .slice none 0 0, .slice none 0 0] 42))
  have HR0 := Lib.hid (show Blk (((w.alloc (.cells #[.int .i64 top, (.slice A1 r.first.length c1), (.slice A2 r.idle.length c2), (.slice A3 r.op.length c3), (.slice A4 r.gr.length c4), (.slice A5 r.en.length c5)] 42)).alloc (.cells #[.int .i64 (0), .int .i64 id, .int .i64 fk, .string data, .string text] 36)).alloc (.cells #[.int .i64 0, .slice none 0 0, .slice none 0 0, .slice none 0 0, .slice none 0 0, .slice none 0 0] 42)) (w.heap.size + 1 + 1) 42 #[.int .i64 0, .slice none 0 0, .slice none 0 0, .slice none 0 0, .slice none 0 0, .slice none 0 0] from heap_at_new _ (by simp))
  go_enter Try.func16, Try.ntmps16
  go_wp2_with fail
  refine (HRT.out _).mono ?_
  rintro e w1 ⟨rfl, b1⟩
  have B1 := Lib.hid (show B w w1 from B_trans HB0.out b1)
  have HW1 := Lib.hid (HW0.out.b b1)
  have HO1 := Lib.hid (HO0.out.b b1)
  have HR1 := Lib.hid (HR0.out.b b1)
  have hs1 : w.heap.size + 1 + 1 < w1.heap.size := HR1.out.lt
  clear b1 HRT HB0 HW0 HO0 HR0
  have aw := HW1.out
  have a0 := aw.cell 0
  have a1 := aw.cell 1
  have a2 := aw.cell 2
  have a3 := aw.cell 3
  have a4 := aw.cell 4
  have a5 := aw.cell 5
  have al := aw.lt
  have af := fun i => aw.frozen i
  simp at a0 a1 a2 a3 a4 a5
  clear aw
  have ew := HO1.out
  have e0 := ew.cell 0
  have e1 := ew.cell 1
  have e2 := ew.cell 2
  have el := ew.lt
  have ef := fun i => ew.frozen i
  simp at e0 e1 e2
  clear ew
  have zw := HR1.out
  have z0 := zw.cell 0
  have z1 := zw.cell 1
  have z2 := zw.cell 2
  have z3 := zw.cell 3
  have z4 := zw.cell 4
  have z5 := zw.cell 5
  have zl := zw.lt
  have zf := fun i => zw.frozen i
  simp at z0 z1 z2 z3 z4 z5
  clear zw
  go_wp2_with fail
  refine (HEN.out _ (by repeat (first | with_reducible exact B1.out | refine B_setCell ?_ (by first | (simp; done) | (simp; omega)) _ | refine B_drewN ?_ _ | refine B_drew ?_))).mono ?_
  rintro e w2 ⟨rfl, rfl⟩
  go_wp2_with fail
  refine (HTH.out _ (by repeat (first | with_reducible exact B1.out | refine B_setCell ?_ (by first | (simp; done) | (simp; omega)) _ | refine B_drewN ?_ _ | refine B_drew ?_))).mono ?_
  rintro e w3 ⟨rfl, b3⟩
  have B3 := Lib.hid (show B w w3 from B_trans (by repeat (first | with_reducible exact B1.out | refine B_setCell ?_ (by first | (simp; done) | (simp; omega)) _ | refine B_drewN ?_ _ | refine B_drew ?_)) b3)
  have HW3 := Lib.hid (Blk.b (show Blk _ w.heap.size 42 #[.int .i64 top, (.slice A1 r.first.length c1), (.slice A2 r.idle.length c2), (.slice A3 r.op.length c3), (.slice A4 r.gr.length c4), (.slice A5 r.en.length c5)] by repeat (first | with_reducible exact HW1.out | refine Blk.drew ?_ | refine Blk.drewN ?_ _)) b3)
  have HO3 := Lib.hid (Blk.b (show Blk _ (w.heap.size + 1) 36 #[.int .i64 (0), .int .i64 id, .int .i64 fk, .string data, .string text] by repeat (first | with_reducible exact HO1.out | refine Blk.drew ?_ | refine Blk.drewN ?_ _)) b3)
  have HR3 := Lib.hid (Blk.b (show Blk _ (w.heap.size + 1 + 1) 42 #[.int .i64 0, .slice none 0 0, .slice none 0 0, .slice none 0 0, .slice none 0 0, .slice none 0 0] by repeat (first | with_reducible exact HR1.out | refine Blk.drew ?_ | refine Blk.drewN ?_ _)) b3)
  have hs3 : w.heap.size + 1 + 1 < w3.heap.size := HR3.out.lt
  clear a0 a1 a2 a3 a4 a5 al af
  clear e0 e1 e2 el ef
  clear z0 z1 z2 z3 z4 z5 zl zf
  clear b3 B1 HW1 HO1 HR1 hs1 HEN HTH
  have aw := HW3.out
  have a0 := aw.cell 0
  have a1 := aw.cell 1
  have a2 := aw.cell 2
  have a3 := aw.cell 3
  have a4 := aw.cell 4
  have a5 := aw.cell 5
  have al := aw.lt
  have af := fun i => aw.frozen i
  simp at a0 a1 a2 a3 a4 a5
  clear aw
  have ew := HO3.out
  have e0 := ew.cell 0
  have e1 := ew.cell 1
  have e2 := ew.cell 2
  have el := ew.lt
  have ef := fun i => ew.frozen i
  simp at e0 e1 e2
  clear ew
  have zw := HR3.out
  have z0 := zw.cell 0
  have z1 := zw.cell 1
  have z2 := zw.cell 2
  have z3 := zw.cell 3
  have z4 := zw.cell 4
  have z5 := zw.cell 5
  have zl := zw.lt
  have zf := fun i => zw.frozen i
  simp at z0 z1 z2 z3 z4 z5
  clear zw
  go_wp2_with fail
  refine (HGR.out _ (by repeat (first | with_reducible exact B3.out | refine B_setCell ?_ (by first | (simp; done) | (simp; omega)) _ | refine B_drewN ?_ _ | refine B_drew ?_))).mono ?_
  rintro e w4 ⟨rfl, rfl⟩
  go_wp2_with fail
  refine (HL0.out _ (by repeat (first | with_reducible exact B3.out | refine B_setCell ?_ (by first | (simp; done) | (simp; omega)) _ | refine B_drewN ?_ _ | refine B_drew ?_))).mono ?_
  rintro e u0 ⟨B0, d0', n0, rfl, q0', x0, b0'⟩
  have Bu0 := Lib.hid (show B w u0 from B_trans (by repeat (first | with_reducible exact B3.out | refine B_setCell ?_ (by first | (simp; done) | (simp; omega)) _ | refine B_drewN ?_ _ | refine B_drew ?_)) b0')
  have Q0 := Lib.hid q0'
  have X0 := Lib.hid (show ∀ g, Value.ownBlock (.slice B0 n0 d0') = some g → w.heap.size + 3 ≤ g from fun g hg => by have := x0 g hg; first | omega | (simp at this; omega))
  have HWu0 := Lib.hid (Blk.b (show Blk _ w.heap.size 42 #[.int .i64 top, (.slice A1 r.first.length c1), (.slice A2 r.idle.length c2), (.slice A3 r.op.length c3), (.slice A4 r.gr.length c4), (.slice A5 r.en.length c5)] from HW3.out) b0')
  have HOu0 := Lib.hid (Blk.b (show Blk _ (w.heap.size + 1) 36 #[.int .i64 (0), .int .i64 id, .int .i64 fk, .string data, .string text] from HO3.out) b0')
  have HRu0 := Lib.hid (Blk.b (show Blk _ (w.heap.size + 1 + 1) 42 #[.int .i64 0, .slice none 0 0, .slice none 0 0, .slice none 0 0, .slice none 0 0, .slice none 0 0] from HR3.out) b0')
  have hsu0 : w.heap.size + 1 + 1 < u0.heap.size := HRu0.out.lt
  clear a0 a1 a2 a3 a4 a5 al af
  clear e0 e1 e2 el ef
  clear z0 z1 z2 z3 z4 z5 zl zf
  clear b0' q0' x0 HL0 B3 HW3 HO3 HR3 hs3
  have aw := HWu0.out
  have a0 := aw.cell 0
  have a1 := aw.cell 1
  have a2 := aw.cell 2
  have a3 := aw.cell 3
  have a4 := aw.cell 4
  have a5 := aw.cell 5
  have al := aw.lt
  have af := fun i => aw.frozen i
  simp at a0 a1 a2 a3 a4 a5
  clear aw
  have ew := HOu0.out
  have e0 := ew.cell 0
  have e1 := ew.cell 1
  have e2 := ew.cell 2
  have el := ew.lt
  have ef := fun i => ew.frozen i
  simp at e0 e1 e2
  clear ew
  have zw := HRu0.out
  have z0 := zw.cell 0
  have z1 := zw.cell 1
  have z2 := zw.cell 2
  have z3 := zw.cell 3
  have z4 := zw.cell 4
  have z5 := zw.cell 5
  have zl := zw.lt
  have zf := fun i => zw.frozen i
  simp at z0 z1 z2 z3 z4 z5
  clear zw
  go_wp2_with fail
  refine sees_end (by rfl) (by rfl) (show Blk _ (w.heap.size + 1 + 1) 42 #[.int .i64 top, (.slice A1 r.first.length c1), (.slice A2 r.idle.length c2), (.slice A3 r.op.length c3), (.slice B0 n0 d0'), (.slice A5 r.en.length c5)] from (((((((HRu0.out.far (p := ⟨w.heap.size, 4, none⟩) (by show w.heap.size + 1 + 1 ≠ w.heap.size; omega) _).set_ 0 _).set_ 1 _).set_ 2 _).set_ 3 _).set_ 4 _).set_ 5 _)) ?_
  refine HFIN.out _ B0 d0' n0 ?_ ?_
  · repeat (first | with_reducible exact Q0.out | refine IsL.far ?_ (fun g hg => by have := X0.out g hg; first | (show g ≠ w.heap.size; omega) | (show g ≠ w.heap.size + 1 + 1; omega)) _)
  · repeat (first | with_reducible exact Bu0.out | refine B_setCell ?_ (by first | (simp; done) | (simp; omega)) _ | refine B_drewN ?_ _ | refine B_drew ?_)
set_option maxRecDepth 100000 in
set_option maxHeartbeats 8000000 in
theorem see_0_six (w : World) (id fk : Int) (data text : ByteArray) (v1 v2 v3 v4 v5 : Value) (r : RW) (hf : Few r 1000) (h : RWV w v1 v2 v3 v4 v5 r) (ht : text.size ≤ 9999) (hr : rightV ⟨0, id, fk, data, text⟩ = true) (hen : decide (id ∈ r.en) = false) (hgr : decide (id ∈ r.gr) = true) (k1 : (fk != 1) = true) (j1 : (fk == 1) = false) (k6 : (fk != 6) = false) (j6 : (fk == 6) = true) :
    Calls Try.prog 16 #[.agg #[.int .i64 r.top, v1, v2, v3, v4, v5], .agg #[.int .i64 (0), .int .i64 id, .int .i64 fk, .string data, .string text]] w (SeePost w (r, 0)) := by
  have HRT := Lib.hid (show ∀ W, Calls Try.prog 27 #[.agg #[.int .i64 (0), .int .i64 id, .int .i64 fk, .string data, .string text]] W fun e w' => e = .returned (.bool true) ∧ B W w' from fun W => by
    have := refright_any ⟨0, id, fk, data, text⟩ ht W
    rw [hr] at this
    exact this)
  have HEN := Lib.hid (fun W (hb : B w W) => has_v W v5 r.en id (by have := hf.l5; omega) (h.h5.below hb))
  have HTH := Lib.hid (fun W (hb : B w W) => there_any W r.top id v1 v2 v3 v4 v5 r hf (h.below hb))
  rw [hen] at HEN
  generalize thereR r id = qt at HTH
  have HGR := Lib.hid (fun W (hb : B w W) => has_v W v4 r.gr id (by have := hf.l4; omega) (h.h4.below hb))
  rw [hgr] at HGR
  obtain ⟨top, htop⟩ : ∃ top, r.top = top := ⟨_, rfl⟩
  have HH := Lib.hid h
  obtain ⟨⟨A1, c1, rfl, -⟩, ⟨A2, c2, rfl, -⟩, ⟨A3, c3, rfl, -⟩, ⟨A4, c4, rfl, -⟩, ⟨A5, c5, rfl, -⟩⟩ := h
  have HFIN := Lib.hid (show ∀ W, B w W → SeePost w (r, 0) (.returned (.tuple #[.agg #[.int .i64 top, (.slice A1 r.first.length c1), (.slice A2 r.idle.length c2), (.slice A3 r.op.length c3), (.slice A4 r.gr.length c4), (.slice A5 r.en.length c5)], .int .i64 0])) W from fun W hb => ⟨_, _, _, _, _, by rw [← htop], ⟨HH.out.h1.below hb, HH.out.h2.below hb, HH.out.h3.below hb, HH.out.h4.below hb, HH.out.h5.below hb⟩, hb⟩)
  try rw [htop] at HFIN
  rw [htop] at HTH ⊢
  clear htop hf hr ht
  have HB0 := Lib.hid (B_alloc (B_alloc (B_alloc (B_refl w) (.cells #[.int .i64 top, (.slice A1 r.first.length c1), (.slice A2 r.idle.length c2), (.slice A3 r.op.length c3), (.slice A4 r.gr.length c4), (.slice A5 r.en.length c5)] 42)) (.cells #[.int .i64 (0), .int .i64 id, .int .i64 fk, .string data, .string text] 36)) (.cells #[.int .i64 0, .slice none 0 0, .slice none 0 0, .slice none 0 0, .slice none 0 0, .slice none 0 0] 42))
  have HW0 := Lib.hid (Blk.alloc (Blk.alloc (Blk.new w 42 #[.int .i64 top, (.slice A1 r.first.length c1), (.slice A2 r.idle.length c2), (.slice A3 r.op.length c3), (.slice A4 r.gr.length c4), (.slice A5 r.en.length c5)]) (.cells #[.int .i64 (0), .int .i64 id, .int .i64 fk, .string data, .string text] 36)) (.cells #[.int .i64 0, .slice none 0 0, .slice none 0 0, .slice none 0 0, .slice none 0 0, .slice none 0 0] 42))
  have HO0 := Lib.hid (Blk.alloc (show Blk ((w.alloc (.cells #[.int .i64 top, (.slice A1 r.first.length c1), (.slice A2 r.idle.length c2), (.slice A3 r.op.length c3), (.slice A4 r.gr.length c4), (.slice A5 r.en.length c5)] 42)).alloc (.cells #[.int .i64 (0), .int .i64 id, .int .i64 fk, .string data, .string text] 36)) (w.heap.size + 1) 36 #[.int .i64 (0), .int .i64 id, .int .i64 fk, .string data, .string text] from heap_at_new _ (by simp)) (.cells #[.int .i64 0, .slice none 0 0, .slice none 0 0, .slice none 0 0, .slice none 0 0, .slice none 0 0] 42))
  have HR0 := Lib.hid (show Blk (((w.alloc (.cells #[.int .i64 top, (.slice A1 r.first.length c1), (.slice A2 r.idle.length c2), (.slice A3 r.op.length c3), (.slice A4 r.gr.length c4), (.slice A5 r.en.length c5)] 42)).alloc (.cells #[.int .i64 (0), .int .i64 id, .int .i64 fk, .string data, .string text] 36)).alloc (.cells #[.int .i64 0, .slice none 0 0, .slice none 0 0, .slice none 0 0, .slice none 0 0, .slice none 0 0] 42)) (w.heap.size + 1 + 1) 42 #[.int .i64 0, .slice none 0 0, .slice none 0 0, .slice none 0 0, .slice none 0 0, .slice none 0 0] from heap_at_new _ (by simp))
  go_enter Try.func16, Try.ntmps16
  go_wp2_with fail
  refine (HRT.out _).mono ?_
  rintro e w1 ⟨rfl, b1⟩
  have B1 := Lib.hid (show B w w1 from B_trans HB0.out b1)
  have HW1 := Lib.hid (HW0.out.b b1)
  have HO1 := Lib.hid (HO0.out.b b1)
  have HR1 := Lib.hid (HR0.out.b b1)
  have hs1 : w.heap.size + 1 + 1 < w1.heap.size := HR1.out.lt
  clear b1 HRT HB0 HW0 HO0 HR0
  have aw := HW1.out
  have a0 := aw.cell 0
  have a1 := aw.cell 1
  have a2 := aw.cell 2
  have a3 := aw.cell 3
  have a4 := aw.cell 4
  have a5 := aw.cell 5
  have al := aw.lt
  have af := fun i => aw.frozen i
  simp at a0 a1 a2 a3 a4 a5
  clear aw
  have ew := HO1.out
  have e0 := ew.cell 0
  have e1 := ew.cell 1
  have e2 := ew.cell 2
  have el := ew.lt
  have ef := fun i => ew.frozen i
  simp at e0 e1 e2
  clear ew
  have zw := HR1.out
  have z0 := zw.cell 0
  have z1 := zw.cell 1
  have z2 := zw.cell 2
  have z3 := zw.cell 3
  have z4 := zw.cell 4
  have z5 := zw.cell 5
  have zl := zw.lt
  have zf := fun i => zw.frozen i
  simp at z0 z1 z2 z3 z4 z5
  clear zw
  go_wp2_with fail
  refine (HEN.out _ (by repeat (first | with_reducible exact B1.out | refine B_setCell ?_ (by first | (simp; done) | (simp; omega)) _ | refine B_drewN ?_ _ | refine B_drew ?_))).mono ?_
  rintro e w2 ⟨rfl, rfl⟩
  go_wp2_with fail
  refine (HTH.out _ (by repeat (first | with_reducible exact B1.out | refine B_setCell ?_ (by first | (simp; done) | (simp; omega)) _ | refine B_drewN ?_ _ | refine B_drew ?_))).mono ?_
  rintro e w3 ⟨rfl, b3⟩
  have B3 := Lib.hid (show B w w3 from B_trans (by repeat (first | with_reducible exact B1.out | refine B_setCell ?_ (by first | (simp; done) | (simp; omega)) _ | refine B_drewN ?_ _ | refine B_drew ?_)) b3)
  have HW3 := Lib.hid (Blk.b (show Blk _ w.heap.size 42 #[.int .i64 top, (.slice A1 r.first.length c1), (.slice A2 r.idle.length c2), (.slice A3 r.op.length c3), (.slice A4 r.gr.length c4), (.slice A5 r.en.length c5)] by repeat (first | with_reducible exact HW1.out | refine Blk.drew ?_ | refine Blk.drewN ?_ _)) b3)
  have HO3 := Lib.hid (Blk.b (show Blk _ (w.heap.size + 1) 36 #[.int .i64 (0), .int .i64 id, .int .i64 fk, .string data, .string text] by repeat (first | with_reducible exact HO1.out | refine Blk.drew ?_ | refine Blk.drewN ?_ _)) b3)
  have HR3 := Lib.hid (Blk.b (show Blk _ (w.heap.size + 1 + 1) 42 #[.int .i64 0, .slice none 0 0, .slice none 0 0, .slice none 0 0, .slice none 0 0, .slice none 0 0] by repeat (first | with_reducible exact HR1.out | refine Blk.drew ?_ | refine Blk.drewN ?_ _)) b3)
  have hs3 : w.heap.size + 1 + 1 < w3.heap.size := HR3.out.lt
  clear a0 a1 a2 a3 a4 a5 al af
  clear e0 e1 e2 el ef
  clear z0 z1 z2 z3 z4 z5 zl zf
  clear b3 B1 HW1 HO1 HR1 hs1 HEN HTH
  have aw := HW3.out
  have a0 := aw.cell 0
  have a1 := aw.cell 1
  have a2 := aw.cell 2
  have a3 := aw.cell 3
  have a4 := aw.cell 4
  have a5 := aw.cell 5
  have al := aw.lt
  have af := fun i => aw.frozen i
  simp at a0 a1 a2 a3 a4 a5
  clear aw
  have ew := HO3.out
  have e0 := ew.cell 0
  have e1 := ew.cell 1
  have e2 := ew.cell 2
  have el := ew.lt
  have ef := fun i => ew.frozen i
  simp at e0 e1 e2
  clear ew
  have zw := HR3.out
  have z0 := zw.cell 0
  have z1 := zw.cell 1
  have z2 := zw.cell 2
  have z3 := zw.cell 3
  have z4 := zw.cell 4
  have z5 := zw.cell 5
  have zl := zw.lt
  have zf := fun i => zw.frozen i
  simp at z0 z1 z2 z3 z4 z5
  clear zw
  go_wp2_with fail
  refine (HGR.out _ (by repeat (first | with_reducible exact B3.out | refine B_setCell ?_ (by first | (simp; done) | (simp; omega)) _ | refine B_drewN ?_ _ | refine B_drew ?_))).mono ?_
  rintro e w4 ⟨rfl, rfl⟩
  go_wp2_with fail
  refine sees_end (by rfl) (by rfl) (show Blk _ (w.heap.size + 1 + 1) 42 #[.int .i64 top, (.slice A1 r.first.length c1), (.slice A2 r.idle.length c2), (.slice A3 r.op.length c3), (.slice A4 r.gr.length c4), (.slice A5 r.en.length c5)] from ((((((HR3.out.set_ 0 _).set_ 1 _).set_ 2 _).set_ 3 _).set_ 4 _).set_ 5 _)) ?_
  refine HFIN.out _ ?_
  · repeat (first | with_reducible exact B3.out | refine B_setCell ?_ (by first | (simp; done) | (simp; omega)) _ | refine B_drewN ?_ _ | refine B_drew ?_)
set_option maxRecDepth 100000 in
set_option maxHeartbeats 8000000 in
theorem see_0_seven (w : World) (id fk : Int) (data text : ByteArray) (v1 v2 v3 v4 v5 : Value) (r : RW) (hf : Few r 1000) (h : RWV w v1 v2 v3 v4 v5 r) (ht : text.size ≤ 9999) (hr : rightV ⟨0, id, fk, data, text⟩ = true) (hen : decide (id ∈ r.en) = false) (k1 : (fk != 1) = true) (j1 : (fk == 1) = false) (k6 : (fk != 6) = true) (j6 : (fk == 6) = false) (k7 : (fk != 7) = false) :
    Calls Try.prog 16 #[.agg #[.int .i64 r.top, v1, v2, v3, v4, v5], .agg #[.int .i64 (0), .int .i64 id, .int .i64 fk, .string data, .string text]] w (SeePost w (r, 0)) := by
  have HRT := Lib.hid (show ∀ W, Calls Try.prog 27 #[.agg #[.int .i64 (0), .int .i64 id, .int .i64 fk, .string data, .string text]] W fun e w' => e = .returned (.bool true) ∧ B W w' from fun W => by
    have := refright_any ⟨0, id, fk, data, text⟩ ht W
    rw [hr] at this
    exact this)
  have HEN := Lib.hid (fun W (hb : B w W) => has_v W v5 r.en id (by have := hf.l5; omega) (h.h5.below hb))
  have HTH := Lib.hid (fun W (hb : B w W) => there_any W r.top id v1 v2 v3 v4 v5 r hf (h.below hb))
  rw [hen] at HEN
  generalize thereR r id = qt at HTH
  have HGR := Lib.hid (fun W (hb : B w W) => has_v W v4 r.gr id (by have := hf.l4; omega) (h.h4.below hb))
  generalize decide (id ∈ r.gr) = qg at HGR
  obtain ⟨top, htop⟩ : ∃ top, r.top = top := ⟨_, rfl⟩
  have HH := Lib.hid h
  obtain ⟨⟨A1, c1, rfl, -⟩, ⟨A2, c2, rfl, -⟩, ⟨A3, c3, rfl, -⟩, ⟨A4, c4, rfl, -⟩, ⟨A5, c5, rfl, -⟩⟩ := h
  have HFIN := Lib.hid (show ∀ W, B w W → SeePost w (r, 0) (.returned (.tuple #[.agg #[.int .i64 top, (.slice A1 r.first.length c1), (.slice A2 r.idle.length c2), (.slice A3 r.op.length c3), (.slice A4 r.gr.length c4), (.slice A5 r.en.length c5)], .int .i64 0])) W from fun W hb => ⟨_, _, _, _, _, by rw [← htop], ⟨HH.out.h1.below hb, HH.out.h2.below hb, HH.out.h3.below hb, HH.out.h4.below hb, HH.out.h5.below hb⟩, hb⟩)
  try rw [htop] at HFIN
  rw [htop] at HTH ⊢
  clear htop hf hr ht
  have HB0 := Lib.hid (B_alloc (B_alloc (B_alloc (B_refl w) (.cells #[.int .i64 top, (.slice A1 r.first.length c1), (.slice A2 r.idle.length c2), (.slice A3 r.op.length c3), (.slice A4 r.gr.length c4), (.slice A5 r.en.length c5)] 42)) (.cells #[.int .i64 (0), .int .i64 id, .int .i64 fk, .string data, .string text] 36)) (.cells #[.int .i64 0, .slice none 0 0, .slice none 0 0, .slice none 0 0, .slice none 0 0, .slice none 0 0] 42))
  have HW0 := Lib.hid (Blk.alloc (Blk.alloc (Blk.new w 42 #[.int .i64 top, (.slice A1 r.first.length c1), (.slice A2 r.idle.length c2), (.slice A3 r.op.length c3), (.slice A4 r.gr.length c4), (.slice A5 r.en.length c5)]) (.cells #[.int .i64 (0), .int .i64 id, .int .i64 fk, .string data, .string text] 36)) (.cells #[.int .i64 0, .slice none 0 0, .slice none 0 0, .slice none 0 0, .slice none 0 0, .slice none 0 0] 42))
  have HO0 := Lib.hid (Blk.alloc (show Blk ((w.alloc (.cells #[.int .i64 top, (.slice A1 r.first.length c1), (.slice A2 r.idle.length c2), (.slice A3 r.op.length c3), (.slice A4 r.gr.length c4), (.slice A5 r.en.length c5)] 42)).alloc (.cells #[.int .i64 (0), .int .i64 id, .int .i64 fk, .string data, .string text] 36)) (w.heap.size + 1) 36 #[.int .i64 (0), .int .i64 id, .int .i64 fk, .string data, .string text] from heap_at_new _ (by simp)) (.cells #[.int .i64 0, .slice none 0 0, .slice none 0 0, .slice none 0 0, .slice none 0 0, .slice none 0 0] 42))
  have HR0 := Lib.hid (show Blk (((w.alloc (.cells #[.int .i64 top, (.slice A1 r.first.length c1), (.slice A2 r.idle.length c2), (.slice A3 r.op.length c3), (.slice A4 r.gr.length c4), (.slice A5 r.en.length c5)] 42)).alloc (.cells #[.int .i64 (0), .int .i64 id, .int .i64 fk, .string data, .string text] 36)).alloc (.cells #[.int .i64 0, .slice none 0 0, .slice none 0 0, .slice none 0 0, .slice none 0 0, .slice none 0 0] 42)) (w.heap.size + 1 + 1) 42 #[.int .i64 0, .slice none 0 0, .slice none 0 0, .slice none 0 0, .slice none 0 0, .slice none 0 0] from heap_at_new _ (by simp))
  go_enter Try.func16, Try.ntmps16
  go_wp2_with fail
  refine (HRT.out _).mono ?_
  rintro e w1 ⟨rfl, b1⟩
  have B1 := Lib.hid (show B w w1 from B_trans HB0.out b1)
  have HW1 := Lib.hid (HW0.out.b b1)
  have HO1 := Lib.hid (HO0.out.b b1)
  have HR1 := Lib.hid (HR0.out.b b1)
  have hs1 : w.heap.size + 1 + 1 < w1.heap.size := HR1.out.lt
  clear b1 HRT HB0 HW0 HO0 HR0
  have aw := HW1.out
  have a0 := aw.cell 0
  have a1 := aw.cell 1
  have a2 := aw.cell 2
  have a3 := aw.cell 3
  have a4 := aw.cell 4
  have a5 := aw.cell 5
  have al := aw.lt
  have af := fun i => aw.frozen i
  simp at a0 a1 a2 a3 a4 a5
  clear aw
  have ew := HO1.out
  have e0 := ew.cell 0
  have e1 := ew.cell 1
  have e2 := ew.cell 2
  have el := ew.lt
  have ef := fun i => ew.frozen i
  simp at e0 e1 e2
  clear ew
  have zw := HR1.out
  have z0 := zw.cell 0
  have z1 := zw.cell 1
  have z2 := zw.cell 2
  have z3 := zw.cell 3
  have z4 := zw.cell 4
  have z5 := zw.cell 5
  have zl := zw.lt
  have zf := fun i => zw.frozen i
  simp at z0 z1 z2 z3 z4 z5
  clear zw
  go_wp2_with fail
  refine (HEN.out _ (by repeat (first | with_reducible exact B1.out | refine B_setCell ?_ (by first | (simp; done) | (simp; omega)) _ | refine B_drewN ?_ _ | refine B_drew ?_))).mono ?_
  rintro e w2 ⟨rfl, rfl⟩
  go_wp2_with fail
  refine (HTH.out _ (by repeat (first | with_reducible exact B1.out | refine B_setCell ?_ (by first | (simp; done) | (simp; omega)) _ | refine B_drewN ?_ _ | refine B_drew ?_))).mono ?_
  rintro e w3 ⟨rfl, b3⟩
  have B3 := Lib.hid (show B w w3 from B_trans (by repeat (first | with_reducible exact B1.out | refine B_setCell ?_ (by first | (simp; done) | (simp; omega)) _ | refine B_drewN ?_ _ | refine B_drew ?_)) b3)
  have HW3 := Lib.hid (Blk.b (show Blk _ w.heap.size 42 #[.int .i64 top, (.slice A1 r.first.length c1), (.slice A2 r.idle.length c2), (.slice A3 r.op.length c3), (.slice A4 r.gr.length c4), (.slice A5 r.en.length c5)] by repeat (first | with_reducible exact HW1.out | refine Blk.drew ?_ | refine Blk.drewN ?_ _)) b3)
  have HO3 := Lib.hid (Blk.b (show Blk _ (w.heap.size + 1) 36 #[.int .i64 (0), .int .i64 id, .int .i64 fk, .string data, .string text] by repeat (first | with_reducible exact HO1.out | refine Blk.drew ?_ | refine Blk.drewN ?_ _)) b3)
  have HR3 := Lib.hid (Blk.b (show Blk _ (w.heap.size + 1 + 1) 42 #[.int .i64 0, .slice none 0 0, .slice none 0 0, .slice none 0 0, .slice none 0 0, .slice none 0 0] by repeat (first | with_reducible exact HR1.out | refine Blk.drew ?_ | refine Blk.drewN ?_ _)) b3)
  have hs3 : w.heap.size + 1 + 1 < w3.heap.size := HR3.out.lt
  clear a0 a1 a2 a3 a4 a5 al af
  clear e0 e1 e2 el ef
  clear z0 z1 z2 z3 z4 z5 zl zf
  clear b3 B1 HW1 HO1 HR1 hs1 HEN HTH
  have aw := HW3.out
  have a0 := aw.cell 0
  have a1 := aw.cell 1
  have a2 := aw.cell 2
  have a3 := aw.cell 3
  have a4 := aw.cell 4
  have a5 := aw.cell 5
  have al := aw.lt
  have af := fun i => aw.frozen i
  simp at a0 a1 a2 a3 a4 a5
  clear aw
  have ew := HO3.out
  have e0 := ew.cell 0
  have e1 := ew.cell 1
  have e2 := ew.cell 2
  have el := ew.lt
  have ef := fun i => ew.frozen i
  simp at e0 e1 e2
  clear ew
  have zw := HR3.out
  have z0 := zw.cell 0
  have z1 := zw.cell 1
  have z2 := zw.cell 2
  have z3 := zw.cell 3
  have z4 := zw.cell 4
  have z5 := zw.cell 5
  have zl := zw.lt
  have zf := fun i => zw.frozen i
  simp at z0 z1 z2 z3 z4 z5
  clear zw
  go_wp2_with fail
  refine (HGR.out _ (by repeat (first | with_reducible exact B3.out | refine B_setCell ?_ (by first | (simp; done) | (simp; omega)) _ | refine B_drewN ?_ _ | refine B_drew ?_))).mono ?_
  rintro e w4 ⟨rfl, rfl⟩
  go_wp2_with fail
  refine sees_end (by rfl) (by rfl) (show Blk _ (w.heap.size + 1 + 1) 42 #[.int .i64 top, (.slice A1 r.first.length c1), (.slice A2 r.idle.length c2), (.slice A3 r.op.length c3), (.slice A4 r.gr.length c4), (.slice A5 r.en.length c5)] from ((((((HR3.out.set_ 0 _).set_ 1 _).set_ 2 _).set_ 3 _).set_ 4 _).set_ 5 _)) ?_
  refine HFIN.out _ ?_
  · repeat (first | with_reducible exact B3.out | refine B_setCell ?_ (by first | (simp; done) | (simp; omega)) _ | refine B_drewN ?_ _ | refine B_drew ?_)
set_option maxRecDepth 100000 in
set_option maxHeartbeats 8000000 in
theorem see_1_none (w : World) (id fk : Int) (data text : ByteArray) (v1 v2 v3 v4 v5 : Value) (r : RW) (hf : Few r 1000) (h : RWV w v1 v2 v3 v4 v5 r) (ht : text.size ≤ 9999) (hr : rightV ⟨1, id, fk, data, text⟩ = true) (hth : thereR r id = false) :
    Calls Try.prog 16 #[.agg #[.int .i64 r.top, v1, v2, v3, v4, v5], .agg #[.int .i64 (1), .int .i64 id, .int .i64 fk, .string data, .string text]] w (SeePost w (r, 5)) := by
  have HRT := Lib.hid (show ∀ W, Calls Try.prog 27 #[.agg #[.int .i64 (1), .int .i64 id, .int .i64 fk, .string data, .string text]] W fun e w' => e = .returned (.bool true) ∧ B W w' from fun W => by
    have := refright_any ⟨1, id, fk, data, text⟩ ht W
    rw [hr] at this
    exact this)
  have HEN := Lib.hid (fun W (hb : B w W) => has_v W v5 r.en id (by have := hf.l5; omega) (h.h5.below hb))
  have HTH := Lib.hid (fun W (hb : B w W) => there_any W r.top id v1 v2 v3 v4 v5 r hf (h.below hb))
  generalize decide (id ∈ r.en) = qe at HEN
  rw [hth] at HTH
  obtain ⟨top, htop⟩ : ∃ top, r.top = top := ⟨_, rfl⟩
  have HH := Lib.hid h
  obtain ⟨⟨A1, c1, rfl, -⟩, ⟨A2, c2, rfl, -⟩, ⟨A3, c3, rfl, -⟩, ⟨A4, c4, rfl, -⟩, ⟨A5, c5, rfl, -⟩⟩ := h
  have HFIN := Lib.hid (show ∀ W, B w W → SeePost w (r, 5) (.returned (.tuple #[.agg #[.int .i64 top, (.slice A1 r.first.length c1), (.slice A2 r.idle.length c2), (.slice A3 r.op.length c3), (.slice A4 r.gr.length c4), (.slice A5 r.en.length c5)], .int .i64 5])) W from fun W hb => ⟨_, _, _, _, _, by rw [← htop], ⟨HH.out.h1.below hb, HH.out.h2.below hb, HH.out.h3.below hb, HH.out.h4.below hb, HH.out.h5.below hb⟩, hb⟩)
  try rw [htop] at HFIN
  rw [htop] at HTH ⊢
  clear htop hf hr ht
  have HB0 := Lib.hid (B_alloc (B_alloc (B_alloc (B_refl w) (.cells #[.int .i64 top, (.slice A1 r.first.length c1), (.slice A2 r.idle.length c2), (.slice A3 r.op.length c3), (.slice A4 r.gr.length c4), (.slice A5 r.en.length c5)] 42)) (.cells #[.int .i64 (1), .int .i64 id, .int .i64 fk, .string data, .string text] 36)) (.cells #[.int .i64 0, .slice none 0 0, .slice none 0 0, .slice none 0 0, .slice none 0 0, .slice none 0 0] 42))
  have HW0 := Lib.hid (Blk.alloc (Blk.alloc (Blk.new w 42 #[.int .i64 top, (.slice A1 r.first.length c1), (.slice A2 r.idle.length c2), (.slice A3 r.op.length c3), (.slice A4 r.gr.length c4), (.slice A5 r.en.length c5)]) (.cells #[.int .i64 (1), .int .i64 id, .int .i64 fk, .string data, .string text] 36)) (.cells #[.int .i64 0, .slice none 0 0, .slice none 0 0, .slice none 0 0, .slice none 0 0, .slice none 0 0] 42))
  have HO0 := Lib.hid (Blk.alloc (show Blk ((w.alloc (.cells #[.int .i64 top, (.slice A1 r.first.length c1), (.slice A2 r.idle.length c2), (.slice A3 r.op.length c3), (.slice A4 r.gr.length c4), (.slice A5 r.en.length c5)] 42)).alloc (.cells #[.int .i64 (1), .int .i64 id, .int .i64 fk, .string data, .string text] 36)) (w.heap.size + 1) 36 #[.int .i64 (1), .int .i64 id, .int .i64 fk, .string data, .string text] from heap_at_new _ (by simp)) (.cells #[.int .i64 0, .slice none 0 0, .slice none 0 0, .slice none 0 0, .slice none 0 0, .slice none 0 0] 42))
  have HR0 := Lib.hid (show Blk (((w.alloc (.cells #[.int .i64 top, (.slice A1 r.first.length c1), (.slice A2 r.idle.length c2), (.slice A3 r.op.length c3), (.slice A4 r.gr.length c4), (.slice A5 r.en.length c5)] 42)).alloc (.cells #[.int .i64 (1), .int .i64 id, .int .i64 fk, .string data, .string text] 36)).alloc (.cells #[.int .i64 0, .slice none 0 0, .slice none 0 0, .slice none 0 0, .slice none 0 0, .slice none 0 0] 42)) (w.heap.size + 1 + 1) 42 #[.int .i64 0, .slice none 0 0, .slice none 0 0, .slice none 0 0, .slice none 0 0, .slice none 0 0] from heap_at_new _ (by simp))
  go_enter Try.func16, Try.ntmps16
  go_wp2_with fail
  refine (HRT.out _).mono ?_
  rintro e w1 ⟨rfl, b1⟩
  have B1 := Lib.hid (show B w w1 from B_trans HB0.out b1)
  have HW1 := Lib.hid (HW0.out.b b1)
  have HO1 := Lib.hid (HO0.out.b b1)
  have HR1 := Lib.hid (HR0.out.b b1)
  have hs1 : w.heap.size + 1 + 1 < w1.heap.size := HR1.out.lt
  clear b1 HRT HB0 HW0 HO0 HR0
  have aw := HW1.out
  have a0 := aw.cell 0
  have a1 := aw.cell 1
  have a2 := aw.cell 2
  have a3 := aw.cell 3
  have a4 := aw.cell 4
  have a5 := aw.cell 5
  have al := aw.lt
  have af := fun i => aw.frozen i
  simp at a0 a1 a2 a3 a4 a5
  clear aw
  have ew := HO1.out
  have e0 := ew.cell 0
  have e1 := ew.cell 1
  have e2 := ew.cell 2
  have el := ew.lt
  have ef := fun i => ew.frozen i
  simp at e0 e1 e2
  clear ew
  have zw := HR1.out
  have z0 := zw.cell 0
  have z1 := zw.cell 1
  have z2 := zw.cell 2
  have z3 := zw.cell 3
  have z4 := zw.cell 4
  have z5 := zw.cell 5
  have zl := zw.lt
  have zf := fun i => zw.frozen i
  simp at z0 z1 z2 z3 z4 z5
  clear zw
  go_wp2_with fail
  refine (HEN.out _ (by repeat (first | with_reducible exact B1.out | refine B_setCell ?_ (by first | (simp; done) | (simp; omega)) _ | refine B_drewN ?_ _ | refine B_drew ?_))).mono ?_
  rintro e w2 ⟨rfl, rfl⟩
  go_wp2_with fail
  refine (HTH.out _ (by repeat (first | with_reducible exact B1.out | refine B_setCell ?_ (by first | (simp; done) | (simp; omega)) _ | refine B_drewN ?_ _ | refine B_drew ?_))).mono ?_
  rintro e w3 ⟨rfl, b3⟩
  have B3 := Lib.hid (show B w w3 from B_trans (by repeat (first | with_reducible exact B1.out | refine B_setCell ?_ (by first | (simp; done) | (simp; omega)) _ | refine B_drewN ?_ _ | refine B_drew ?_)) b3)
  have HW3 := Lib.hid (Blk.b (show Blk _ w.heap.size 42 #[.int .i64 top, (.slice A1 r.first.length c1), (.slice A2 r.idle.length c2), (.slice A3 r.op.length c3), (.slice A4 r.gr.length c4), (.slice A5 r.en.length c5)] by repeat (first | with_reducible exact HW1.out | refine Blk.drew ?_ | refine Blk.drewN ?_ _)) b3)
  have HO3 := Lib.hid (Blk.b (show Blk _ (w.heap.size + 1) 36 #[.int .i64 (1), .int .i64 id, .int .i64 fk, .string data, .string text] by repeat (first | with_reducible exact HO1.out | refine Blk.drew ?_ | refine Blk.drewN ?_ _)) b3)
  have HR3 := Lib.hid (Blk.b (show Blk _ (w.heap.size + 1 + 1) 42 #[.int .i64 0, .slice none 0 0, .slice none 0 0, .slice none 0 0, .slice none 0 0, .slice none 0 0] by repeat (first | with_reducible exact HR1.out | refine Blk.drew ?_ | refine Blk.drewN ?_ _)) b3)
  have hs3 : w.heap.size + 1 + 1 < w3.heap.size := HR3.out.lt
  clear a0 a1 a2 a3 a4 a5 al af
  clear e0 e1 e2 el ef
  clear z0 z1 z2 z3 z4 z5 zl zf
  clear b3 B1 HW1 HO1 HR1 hs1 HEN HTH
  have aw := HW3.out
  have a0 := aw.cell 0
  have a1 := aw.cell 1
  have a2 := aw.cell 2
  have a3 := aw.cell 3
  have a4 := aw.cell 4
  have a5 := aw.cell 5
  have al := aw.lt
  have af := fun i => aw.frozen i
  simp at a0 a1 a2 a3 a4 a5
  clear aw
  have ew := HO3.out
  have e0 := ew.cell 0
  have e1 := ew.cell 1
  have e2 := ew.cell 2
  have el := ew.lt
  have ef := fun i => ew.frozen i
  simp at e0 e1 e2
  clear ew
  have zw := HR3.out
  have z0 := zw.cell 0
  have z1 := zw.cell 1
  have z2 := zw.cell 2
  have z3 := zw.cell 3
  have z4 := zw.cell 4
  have z5 := zw.cell 5
  have zl := zw.lt
  have zf := fun i => zw.frozen i
  simp at z0 z1 z2 z3 z4 z5
  clear zw
  go_wp2_with fail
  refine sees_end (by rfl) (by rfl) (show Blk _ (w.heap.size + 1 + 1) 42 #[.int .i64 top, (.slice A1 r.first.length c1), (.slice A2 r.idle.length c2), (.slice A3 r.op.length c3), (.slice A4 r.gr.length c4), (.slice A5 r.en.length c5)] from ((((((HR3.out.set_ 0 _).set_ 1 _).set_ 2 _).set_ 3 _).set_ 4 _).set_ 5 _)) ?_
  refine HFIN.out _ ?_
  · repeat (first | with_reducible exact B3.out | refine B_setCell ?_ (by first | (simp; done) | (simp; omega)) _ | refine B_drewN ?_ _ | refine B_drew ?_)
set_option maxRecDepth 100000 in
set_option maxHeartbeats 8000000 in
theorem see_1_back (w : World) (id fk : Int) (data text : ByteArray) (v1 v2 v3 v4 v5 : Value) (r : RW) (hf : Few r 1000) (ha : Apart r id) (h : RWV w v1 v2 v3 v4 v5 r) (ht : text.size ≤ 9999) (hr : rightV ⟨1, id, fk, data, text⟩ = true) (hth : thereR r id = true) :
    Calls Try.prog 16 #[.agg #[.int .i64 r.top, v1, v2, v3, v4, v5], .agg #[.int .i64 (1), .int .i64 id, .int .i64 fk, .string data, .string text]] w (SeePost w (backR r id fk)) := by
  have HRT := Lib.hid (show ∀ W, Calls Try.prog 27 #[.agg #[.int .i64 (1), .int .i64 id, .int .i64 fk, .string data, .string text]] W fun e w' => e = .returned (.bool true) ∧ B W w' from fun W => by
    have := refright_any ⟨1, id, fk, data, text⟩ ht W
    rw [hr] at this
    exact this)
  have HEN := Lib.hid (fun W (hb : B w W) => has_v W v5 r.en id (by have := hf.l5; omega) (h.h5.below hb))
  have HTH := Lib.hid (fun W (hb : B w W) => there_any W r.top id v1 v2 v3 v4 v5 r hf (h.below hb))
  generalize decide (id ∈ r.en) = qe at HEN
  rw [hth] at HTH
  have HBK := Lib.hid (fun W (hb : B w W) => refback_any W id fk v1 v2 v3 v4 v5 r hf ha (h.below hb))
  unfold SeePost at HBK
  obtain ⟨top, htop⟩ : ∃ top, r.top = top := ⟨_, rfl⟩
  have HH := Lib.hid h
  obtain ⟨⟨A1, c1, rfl, -⟩, ⟨A2, c2, rfl, -⟩, ⟨A3, c3, rfl, -⟩, ⟨A4, c4, rfl, -⟩, ⟨A5, c5, rfl, -⟩⟩ := h
  have HFIN := Lib.hid (show ∀ W e w', B w W → (∃ u1 u2 u3 u4 u5, e = Ending.returned (.tuple #[.agg #[.int .i64 (backR r id fk).1.top, u1, u2, u3, u4, u5], .int .i64 (backR r id fk).2]) ∧ RWV w' u1 u2 u3 u4 u5 (backR r id fk).1 ∧ B w w') → SeePost w (backR r id fk) e w' from fun W e w' _ h => h)
  rw [htop] at HTH HBK ⊢
  generalize backR r id fk = bk at *
  clear htop hf hr ht ha
  have HB0 := Lib.hid (B_alloc (B_alloc (B_alloc (B_refl w) (.cells #[.int .i64 top, (.slice A1 r.first.length c1), (.slice A2 r.idle.length c2), (.slice A3 r.op.length c3), (.slice A4 r.gr.length c4), (.slice A5 r.en.length c5)] 42)) (.cells #[.int .i64 (1), .int .i64 id, .int .i64 fk, .string data, .string text] 36)) (.cells #[.int .i64 0, .slice none 0 0, .slice none 0 0, .slice none 0 0, .slice none 0 0, .slice none 0 0] 42))
  have HW0 := Lib.hid (Blk.alloc (Blk.alloc (Blk.new w 42 #[.int .i64 top, (.slice A1 r.first.length c1), (.slice A2 r.idle.length c2), (.slice A3 r.op.length c3), (.slice A4 r.gr.length c4), (.slice A5 r.en.length c5)]) (.cells #[.int .i64 (1), .int .i64 id, .int .i64 fk, .string data, .string text] 36)) (.cells #[.int .i64 0, .slice none 0 0, .slice none 0 0, .slice none 0 0, .slice none 0 0, .slice none 0 0] 42))
  have HO0 := Lib.hid (Blk.alloc (show Blk ((w.alloc (.cells #[.int .i64 top, (.slice A1 r.first.length c1), (.slice A2 r.idle.length c2), (.slice A3 r.op.length c3), (.slice A4 r.gr.length c4), (.slice A5 r.en.length c5)] 42)).alloc (.cells #[.int .i64 (1), .int .i64 id, .int .i64 fk, .string data, .string text] 36)) (w.heap.size + 1) 36 #[.int .i64 (1), .int .i64 id, .int .i64 fk, .string data, .string text] from heap_at_new _ (by simp)) (.cells #[.int .i64 0, .slice none 0 0, .slice none 0 0, .slice none 0 0, .slice none 0 0, .slice none 0 0] 42))
  have HR0 := Lib.hid (show Blk (((w.alloc (.cells #[.int .i64 top, (.slice A1 r.first.length c1), (.slice A2 r.idle.length c2), (.slice A3 r.op.length c3), (.slice A4 r.gr.length c4), (.slice A5 r.en.length c5)] 42)).alloc (.cells #[.int .i64 (1), .int .i64 id, .int .i64 fk, .string data, .string text] 36)).alloc (.cells #[.int .i64 0, .slice none 0 0, .slice none 0 0, .slice none 0 0, .slice none 0 0, .slice none 0 0] 42)) (w.heap.size + 1 + 1) 42 #[.int .i64 0, .slice none 0 0, .slice none 0 0, .slice none 0 0, .slice none 0 0, .slice none 0 0] from heap_at_new _ (by simp))
  go_enter Try.func16, Try.ntmps16
  go_wp2_with fail
  refine (HRT.out _).mono ?_
  rintro e w1 ⟨rfl, b1⟩
  have B1 := Lib.hid (show B w w1 from B_trans HB0.out b1)
  have HW1 := Lib.hid (HW0.out.b b1)
  have HO1 := Lib.hid (HO0.out.b b1)
  have HR1 := Lib.hid (HR0.out.b b1)
  have hs1 : w.heap.size + 1 + 1 < w1.heap.size := HR1.out.lt
  clear b1 HRT HB0 HW0 HO0 HR0
  have aw := HW1.out
  have a0 := aw.cell 0
  have a1 := aw.cell 1
  have a2 := aw.cell 2
  have a3 := aw.cell 3
  have a4 := aw.cell 4
  have a5 := aw.cell 5
  have al := aw.lt
  have af := fun i => aw.frozen i
  simp at a0 a1 a2 a3 a4 a5
  clear aw
  have ew := HO1.out
  have e0 := ew.cell 0
  have e1 := ew.cell 1
  have e2 := ew.cell 2
  have el := ew.lt
  have ef := fun i => ew.frozen i
  simp at e0 e1 e2
  clear ew
  have zw := HR1.out
  have z0 := zw.cell 0
  have z1 := zw.cell 1
  have z2 := zw.cell 2
  have z3 := zw.cell 3
  have z4 := zw.cell 4
  have z5 := zw.cell 5
  have zl := zw.lt
  have zf := fun i => zw.frozen i
  simp at z0 z1 z2 z3 z4 z5
  clear zw
  go_wp2_with fail
  refine (HEN.out _ (by repeat (first | with_reducible exact B1.out | refine B_setCell ?_ (by first | (simp; done) | (simp; omega)) _ | refine B_drewN ?_ _ | refine B_drew ?_))).mono ?_
  rintro e w2 ⟨rfl, rfl⟩
  go_wp2_with fail
  refine (HTH.out _ (by repeat (first | with_reducible exact B1.out | refine B_setCell ?_ (by first | (simp; done) | (simp; omega)) _ | refine B_drewN ?_ _ | refine B_drew ?_))).mono ?_
  rintro e w3 ⟨rfl, b3⟩
  have B3 := Lib.hid (show B w w3 from B_trans (by repeat (first | with_reducible exact B1.out | refine B_setCell ?_ (by first | (simp; done) | (simp; omega)) _ | refine B_drewN ?_ _ | refine B_drew ?_)) b3)
  have HW3 := Lib.hid (Blk.b (show Blk _ w.heap.size 42 #[.int .i64 top, (.slice A1 r.first.length c1), (.slice A2 r.idle.length c2), (.slice A3 r.op.length c3), (.slice A4 r.gr.length c4), (.slice A5 r.en.length c5)] by repeat (first | with_reducible exact HW1.out | refine Blk.drew ?_ | refine Blk.drewN ?_ _)) b3)
  have HO3 := Lib.hid (Blk.b (show Blk _ (w.heap.size + 1) 36 #[.int .i64 (1), .int .i64 id, .int .i64 fk, .string data, .string text] by repeat (first | with_reducible exact HO1.out | refine Blk.drew ?_ | refine Blk.drewN ?_ _)) b3)
  have HR3 := Lib.hid (Blk.b (show Blk _ (w.heap.size + 1 + 1) 42 #[.int .i64 0, .slice none 0 0, .slice none 0 0, .slice none 0 0, .slice none 0 0, .slice none 0 0] by repeat (first | with_reducible exact HR1.out | refine Blk.drew ?_ | refine Blk.drewN ?_ _)) b3)
  have hs3 : w.heap.size + 1 + 1 < w3.heap.size := HR3.out.lt
  clear a0 a1 a2 a3 a4 a5 al af
  clear e0 e1 e2 el ef
  clear z0 z1 z2 z3 z4 z5 zl zf
  clear b3 B1 HW1 HO1 HR1 hs1 HEN HTH
  have aw := HW3.out
  have a0 := aw.cell 0
  have a1 := aw.cell 1
  have a2 := aw.cell 2
  have a3 := aw.cell 3
  have a4 := aw.cell 4
  have a5 := aw.cell 5
  have al := aw.lt
  have af := fun i => aw.frozen i
  simp at a0 a1 a2 a3 a4 a5
  clear aw
  have ew := HO3.out
  have e0 := ew.cell 0
  have e1 := ew.cell 1
  have e2 := ew.cell 2
  have el := ew.lt
  have ef := fun i => ew.frozen i
  simp at e0 e1 e2
  clear ew
  have zw := HR3.out
  have z0 := zw.cell 0
  have z1 := zw.cell 1
  have z2 := zw.cell 2
  have z3 := zw.cell 3
  have z4 := zw.cell 4
  have z5 := zw.cell 5
  have zl := zw.lt
  have zf := fun i => zw.frozen i
  simp at z0 z1 z2 z3 z4 z5
  clear zw
  go_wp2_with fail
  refine (HBK.out _ (by repeat (first | with_reducible exact B3.out | refine B_setCell ?_ (by first | (simp; done) | (simp; omega)) _ | refine B_drewN ?_ _ | refine B_drew ?_))).mono ?_
  rintro e w5 ⟨u1, u2, u3, u4, u5, rfl, hrv, b5⟩
  have B5 := Lib.hid (show B w w5 from B_trans (by repeat (first | with_reducible exact B3.out | refine B_setCell ?_ (by first | (simp; done) | (simp; omega)) _ | refine B_drewN ?_ _ | refine B_drew ?_)) b5)
  have HR5 := Lib.hid (HR3.out.b b5)
  clear a0 a1 a2 a3 a4 a5 al af
  clear e0 e1 e2 el ef
  clear z0 z1 z2 z3 z4 z5 zl zf
  clear b5
  have HRV := Lib.hid hrv
  obtain ⟨⟨E1, f1, rfl, -⟩, ⟨E2, f2, rfl, -⟩, ⟨E3, f3, rfl, -⟩, ⟨E4, f4, rfl, -⟩, ⟨E5, f5, rfl, -⟩⟩ := hrv
  obtain ⟨bq, bc⟩ := bk
  dsimp only at HRV ⊢
  generalize hm1 : bq.first.length = m1 at *
  have Hm1 := Lib.hid hm1
  clear hm1
  generalize hm2 : bq.idle.length = m2 at *
  have Hm2 := Lib.hid hm2
  clear hm2
  generalize hm3 : bq.op.length = m3 at *
  have Hm3 := Lib.hid hm3
  clear hm3
  generalize hm4 : bq.gr.length = m4 at *
  have Hm4 := Lib.hid hm4
  clear hm4
  generalize hm5 : bq.en.length = m5 at *
  have Hm5 := Lib.hid hm5
  clear hm5
  generalize hmt : bq.top = mt at *
  have Hmt := Lib.hid hmt
  clear hmt
  have zw := HR5.out
  have z0 := zw.cell 0
  have z1 := zw.cell 1
  have z2 := zw.cell 2
  have z3 := zw.cell 3
  have z4 := zw.cell 4
  have z5 := zw.cell 5
  have zl := zw.lt
  have zf := fun i => zw.frozen i
  simp at z0 z1 z2 z3 z4 z5
  clear zw
  go_wp2_with fail
  refine sees_end (by rfl) (by rfl) (show Blk _ (w.heap.size + 1 + 1) 42 #[.int .i64 mt, (.slice E1 m1 f1), (.slice E2 m2 f2), (.slice E3 m3 f3), (.slice E4 m4 f4), (.slice E5 m5 f5)] from ((((((HR5.out.set_ 0 _).set_ 1 _).set_ 2 _).set_ 3 _).set_ 4 _).set_ 5 _)) ?_
  refine ⟨_, _, _, _, _, by rw [Hmt.out], ⟨((((((HRV.out.h1.far_t HR5.out 0 _).far_t (HR5.out.set_ 0 _) 1 _).far_t ((HR5.out.set_ 0 _).set_ 1 _) 2 _).far_t (((HR5.out.set_ 0 _).set_ 1 _).set_ 2 _) 3 _).far_t ((((HR5.out.set_ 0 _).set_ 1 _).set_ 2 _).set_ 3 _) 4 _).far_t (((((HR5.out.set_ 0 _).set_ 1 _).set_ 2 _).set_ 3 _).set_ 4 _) 5 _), ((((((HRV.out.h2.far_t HR5.out 0 _).far_t (HR5.out.set_ 0 _) 1 _).far_t ((HR5.out.set_ 0 _).set_ 1 _) 2 _).far_t (((HR5.out.set_ 0 _).set_ 1 _).set_ 2 _) 3 _).far_t ((((HR5.out.set_ 0 _).set_ 1 _).set_ 2 _).set_ 3 _) 4 _).far_t (((((HR5.out.set_ 0 _).set_ 1 _).set_ 2 _).set_ 3 _).set_ 4 _) 5 _), ((((((HRV.out.h3.far_t HR5.out 0 _).far_t (HR5.out.set_ 0 _) 1 _).far_t ((HR5.out.set_ 0 _).set_ 1 _) 2 _).far_t (((HR5.out.set_ 0 _).set_ 1 _).set_ 2 _) 3 _).far_t ((((HR5.out.set_ 0 _).set_ 1 _).set_ 2 _).set_ 3 _) 4 _).far_t (((((HR5.out.set_ 0 _).set_ 1 _).set_ 2 _).set_ 3 _).set_ 4 _) 5 _), ((((((HRV.out.h4.far_t HR5.out 0 _).far_t (HR5.out.set_ 0 _) 1 _).far_t ((HR5.out.set_ 0 _).set_ 1 _) 2 _).far_t (((HR5.out.set_ 0 _).set_ 1 _).set_ 2 _) 3 _).far_t ((((HR5.out.set_ 0 _).set_ 1 _).set_ 2 _).set_ 3 _) 4 _).far_t (((((HR5.out.set_ 0 _).set_ 1 _).set_ 2 _).set_ 3 _).set_ 4 _) 5 _), ((((((HRV.out.h5.far_t HR5.out 0 _).far_t (HR5.out.set_ 0 _) 1 _).far_t ((HR5.out.set_ 0 _).set_ 1 _) 2 _).far_t (((HR5.out.set_ 0 _).set_ 1 _).set_ 2 _) 3 _).far_t ((((HR5.out.set_ 0 _).set_ 1 _).set_ 2 _).set_ 3 _) 4 _).far_t (((((HR5.out.set_ 0 _).set_ 1 _).set_ 2 _).set_ 3 _).set_ 4 _) 5 _)⟩, ?_⟩
  repeat (first | with_reducible exact B5.out | refine B_setCell ?_ (by first | (simp; done) | (simp; omega)) _ | refine B_drewN ?_ _ | refine B_drew ?_)
set_option maxRecDepth 100000 in
set_option maxHeartbeats 8000000 in
theorem see_2_low (w : World) (id fk : Int) (data text : ByteArray) (v1 v2 v3 v4 v5 : Value) (r : RW) (hf : Few r 1000) (h : RWV w v1 v2 v3 v4 v5 r) (ht : text.size ≤ 9999) (hr : rightV ⟨2, id, fk, data, text⟩ = true) (hlow : decide (id ≤ r.top) = true) :
    Calls Try.prog 16 #[.agg #[.int .i64 r.top, v1, v2, v3, v4, v5], .agg #[.int .i64 (2), .int .i64 id, .int .i64 fk, .string data, .string text]] w (SeePost w (r, 6)) := by
  have HRT := Lib.hid (show ∀ W, Calls Try.prog 27 #[.agg #[.int .i64 (2), .int .i64 id, .int .i64 fk, .string data, .string text]] W fun e w' => e = .returned (.bool true) ∧ B W w' from fun W => by
    have := refright_any ⟨2, id, fk, data, text⟩ ht W
    rw [hr] at this
    exact this)
  have HEN := Lib.hid (fun W (hb : B w W) => has_v W v5 r.en id (by have := hf.l5; omega) (h.h5.below hb))
  have HTH := Lib.hid (fun W (hb : B w W) => there_any W r.top id v1 v2 v3 v4 v5 r hf (h.below hb))
  generalize decide (id ∈ r.en) = qe at HEN
  generalize thereR r id = qt at HTH
  obtain ⟨top, htop⟩ : ∃ top, r.top = top := ⟨_, rfl⟩
  have HH := Lib.hid h
  obtain ⟨⟨A1, c1, rfl, -⟩, ⟨A2, c2, rfl, -⟩, ⟨A3, c3, rfl, -⟩, ⟨A4, c4, rfl, -⟩, ⟨A5, c5, rfl, -⟩⟩ := h
  have HFIN := Lib.hid (show ∀ W, B w W → SeePost w (r, 6) (.returned (.tuple #[.agg #[.int .i64 top, (.slice A1 r.first.length c1), (.slice A2 r.idle.length c2), (.slice A3 r.op.length c3), (.slice A4 r.gr.length c4), (.slice A5 r.en.length c5)], .int .i64 6])) W from fun W hb => ⟨_, _, _, _, _, by rw [← htop], ⟨HH.out.h1.below hb, HH.out.h2.below hb, HH.out.h3.below hb, HH.out.h4.below hb, HH.out.h5.below hb⟩, hb⟩)
  try rw [htop] at HFIN
  rw [htop] at HTH ⊢
  rw [htop] at hlow
  clear htop hf hr ht
  have HB0 := Lib.hid (B_alloc (B_alloc (B_alloc (B_refl w) (.cells #[.int .i64 top, (.slice A1 r.first.length c1), (.slice A2 r.idle.length c2), (.slice A3 r.op.length c3), (.slice A4 r.gr.length c4), (.slice A5 r.en.length c5)] 42)) (.cells #[.int .i64 (2), .int .i64 id, .int .i64 fk, .string data, .string text] 36)) (.cells #[.int .i64 0, .slice none 0 0, .slice none 0 0, .slice none 0 0, .slice none 0 0, .slice none 0 0] 42))
  have HW0 := Lib.hid (Blk.alloc (Blk.alloc (Blk.new w 42 #[.int .i64 top, (.slice A1 r.first.length c1), (.slice A2 r.idle.length c2), (.slice A3 r.op.length c3), (.slice A4 r.gr.length c4), (.slice A5 r.en.length c5)]) (.cells #[.int .i64 (2), .int .i64 id, .int .i64 fk, .string data, .string text] 36)) (.cells #[.int .i64 0, .slice none 0 0, .slice none 0 0, .slice none 0 0, .slice none 0 0, .slice none 0 0] 42))
  have HO0 := Lib.hid (Blk.alloc (show Blk ((w.alloc (.cells #[.int .i64 top, (.slice A1 r.first.length c1), (.slice A2 r.idle.length c2), (.slice A3 r.op.length c3), (.slice A4 r.gr.length c4), (.slice A5 r.en.length c5)] 42)).alloc (.cells #[.int .i64 (2), .int .i64 id, .int .i64 fk, .string data, .string text] 36)) (w.heap.size + 1) 36 #[.int .i64 (2), .int .i64 id, .int .i64 fk, .string data, .string text] from heap_at_new _ (by simp)) (.cells #[.int .i64 0, .slice none 0 0, .slice none 0 0, .slice none 0 0, .slice none 0 0, .slice none 0 0] 42))
  have HR0 := Lib.hid (show Blk (((w.alloc (.cells #[.int .i64 top, (.slice A1 r.first.length c1), (.slice A2 r.idle.length c2), (.slice A3 r.op.length c3), (.slice A4 r.gr.length c4), (.slice A5 r.en.length c5)] 42)).alloc (.cells #[.int .i64 (2), .int .i64 id, .int .i64 fk, .string data, .string text] 36)).alloc (.cells #[.int .i64 0, .slice none 0 0, .slice none 0 0, .slice none 0 0, .slice none 0 0, .slice none 0 0] 42)) (w.heap.size + 1 + 1) 42 #[.int .i64 0, .slice none 0 0, .slice none 0 0, .slice none 0 0, .slice none 0 0, .slice none 0 0] from heap_at_new _ (by simp))
  go_enter Try.func16, Try.ntmps16
  go_wp2_with fail
  refine (HRT.out _).mono ?_
  rintro e w1 ⟨rfl, b1⟩
  have B1 := Lib.hid (show B w w1 from B_trans HB0.out b1)
  have HW1 := Lib.hid (HW0.out.b b1)
  have HO1 := Lib.hid (HO0.out.b b1)
  have HR1 := Lib.hid (HR0.out.b b1)
  have hs1 : w.heap.size + 1 + 1 < w1.heap.size := HR1.out.lt
  clear b1 HRT HB0 HW0 HO0 HR0
  have aw := HW1.out
  have a0 := aw.cell 0
  have a1 := aw.cell 1
  have a2 := aw.cell 2
  have a3 := aw.cell 3
  have a4 := aw.cell 4
  have a5 := aw.cell 5
  have al := aw.lt
  have af := fun i => aw.frozen i
  simp at a0 a1 a2 a3 a4 a5
  clear aw
  have ew := HO1.out
  have e0 := ew.cell 0
  have e1 := ew.cell 1
  have e2 := ew.cell 2
  have el := ew.lt
  have ef := fun i => ew.frozen i
  simp at e0 e1 e2
  clear ew
  have zw := HR1.out
  have z0 := zw.cell 0
  have z1 := zw.cell 1
  have z2 := zw.cell 2
  have z3 := zw.cell 3
  have z4 := zw.cell 4
  have z5 := zw.cell 5
  have zl := zw.lt
  have zf := fun i => zw.frozen i
  simp at z0 z1 z2 z3 z4 z5
  clear zw
  go_wp2_with fail
  refine (HEN.out _ (by repeat (first | with_reducible exact B1.out | refine B_setCell ?_ (by first | (simp; done) | (simp; omega)) _ | refine B_drewN ?_ _ | refine B_drew ?_))).mono ?_
  rintro e w2 ⟨rfl, rfl⟩
  go_wp2_with fail
  refine (HTH.out _ (by repeat (first | with_reducible exact B1.out | refine B_setCell ?_ (by first | (simp; done) | (simp; omega)) _ | refine B_drewN ?_ _ | refine B_drew ?_))).mono ?_
  rintro e w3 ⟨rfl, b3⟩
  have B3 := Lib.hid (show B w w3 from B_trans (by repeat (first | with_reducible exact B1.out | refine B_setCell ?_ (by first | (simp; done) | (simp; omega)) _ | refine B_drewN ?_ _ | refine B_drew ?_)) b3)
  have HW3 := Lib.hid (Blk.b (show Blk _ w.heap.size 42 #[.int .i64 top, (.slice A1 r.first.length c1), (.slice A2 r.idle.length c2), (.slice A3 r.op.length c3), (.slice A4 r.gr.length c4), (.slice A5 r.en.length c5)] by repeat (first | with_reducible exact HW1.out | refine Blk.drew ?_ | refine Blk.drewN ?_ _)) b3)
  have HO3 := Lib.hid (Blk.b (show Blk _ (w.heap.size + 1) 36 #[.int .i64 (2), .int .i64 id, .int .i64 fk, .string data, .string text] by repeat (first | with_reducible exact HO1.out | refine Blk.drew ?_ | refine Blk.drewN ?_ _)) b3)
  have HR3 := Lib.hid (Blk.b (show Blk _ (w.heap.size + 1 + 1) 42 #[.int .i64 0, .slice none 0 0, .slice none 0 0, .slice none 0 0, .slice none 0 0, .slice none 0 0] by repeat (first | with_reducible exact HR1.out | refine Blk.drew ?_ | refine Blk.drewN ?_ _)) b3)
  have hs3 : w.heap.size + 1 + 1 < w3.heap.size := HR3.out.lt
  clear a0 a1 a2 a3 a4 a5 al af
  clear e0 e1 e2 el ef
  clear z0 z1 z2 z3 z4 z5 zl zf
  clear b3 B1 HW1 HO1 HR1 hs1 HEN HTH
  have aw := HW3.out
  have a0 := aw.cell 0
  have a1 := aw.cell 1
  have a2 := aw.cell 2
  have a3 := aw.cell 3
  have a4 := aw.cell 4
  have a5 := aw.cell 5
  have al := aw.lt
  have af := fun i => aw.frozen i
  simp at a0 a1 a2 a3 a4 a5
  clear aw
  have ew := HO3.out
  have e0 := ew.cell 0
  have e1 := ew.cell 1
  have e2 := ew.cell 2
  have el := ew.lt
  have ef := fun i => ew.frozen i
  simp at e0 e1 e2
  clear ew
  have zw := HR3.out
  have z0 := zw.cell 0
  have z1 := zw.cell 1
  have z2 := zw.cell 2
  have z3 := zw.cell 3
  have z4 := zw.cell 4
  have z5 := zw.cell 5
  have zl := zw.lt
  have zf := fun i => zw.frozen i
  simp at z0 z1 z2 z3 z4 z5
  clear zw
  go_wp2_with fail
  refine sees_end (by rfl) (by rfl) (show Blk _ (w.heap.size + 1 + 1) 42 #[.int .i64 top, (.slice A1 r.first.length c1), (.slice A2 r.idle.length c2), (.slice A3 r.op.length c3), (.slice A4 r.gr.length c4), (.slice A5 r.en.length c5)] from ((((((HR3.out.set_ 0 _).set_ 1 _).set_ 2 _).set_ 3 _).set_ 4 _).set_ 5 _)) ?_
  refine HFIN.out _ ?_
  · repeat (first | with_reducible exact B3.out | refine B_setCell ?_ (by first | (simp; done) | (simp; omega)) _ | refine B_drewN ?_ _ | refine B_drew ?_)
set_option maxRecDepth 100000 in
set_option maxHeartbeats 8000000 in
theorem see_2_high (w : World) (id fk : Int) (data text : ByteArray) (v1 v2 v3 v4 v5 : Value) (r : RW) (hf : Few r 1000) (h : RWV w v1 v2 v3 v4 v5 r) (ht : text.size ≤ 9999) (hr : rightV ⟨2, id, fk, data, text⟩ = true) (hlow : decide (id ≤ r.top) = false) :
    Calls Try.prog 16 #[.agg #[.int .i64 r.top, v1, v2, v3, v4, v5], .agg #[.int .i64 (2), .int .i64 id, .int .i64 fk, .string data, .string text]] w (SeePost w (({ r with top := id, first := r.first ++ [id] } : RW), 0)) := by
  have HRT := Lib.hid (show ∀ W, Calls Try.prog 27 #[.agg #[.int .i64 (2), .int .i64 id, .int .i64 fk, .string data, .string text]] W fun e w' => e = .returned (.bool true) ∧ B W w' from fun W => by
    have := refright_any ⟨2, id, fk, data, text⟩ ht W
    rw [hr] at this
    exact this)
  have HEN := Lib.hid (fun W (hb : B w W) => has_v W v5 r.en id (by have := hf.l5; omega) (h.h5.below hb))
  have HTH := Lib.hid (fun W (hb : B w W) => there_any W r.top id v1 v2 v3 v4 v5 r hf (h.below hb))
  generalize decide (id ∈ r.en) = qe at HEN
  generalize thereR r id = qt at HTH
  have HL0 := Lib.hid (fun W (hb : B w W) => more_v W v1 r.first id (by have := hf.l1; omega) (h.h1.below hb))
  unfold ToL at HL0
  obtain ⟨top, htop⟩ : ∃ top, r.top = top := ⟨_, rfl⟩
  have HH := Lib.hid h
  obtain ⟨⟨A1, c1, rfl, -⟩, ⟨A2, c2, rfl, -⟩, ⟨A3, c3, rfl, -⟩, ⟨A4, c4, rfl, -⟩, ⟨A5, c5, rfl, -⟩⟩ := h
  have HFIN := Lib.hid (show ∀ W B0 d0' n0, IsL W (.slice B0 n0 d0') (r.first ++ [id]) → B w W → SeePost w (({ r with top := id, first := r.first ++ [id] } : RW), 0) (.returned (.tuple #[.agg #[.int .i64 id, (.slice B0 n0 d0'), (.slice A2 r.idle.length c2), (.slice A3 r.op.length c3), (.slice A4 r.gr.length c4), (.slice A5 r.en.length c5)], .int .i64 0])) W from fun W B0 d0' n0 q0 hb => ⟨_, _, _, _, _, by rfl, ⟨q0, HH.out.h2.below hb, HH.out.h3.below hb, HH.out.h4.below hb, HH.out.h5.below hb⟩, hb⟩)
  try rw [htop] at HFIN
  rw [htop] at HTH ⊢
  rw [htop] at hlow
  clear htop hf hr ht
  have HB0 := Lib.hid (B_alloc (B_alloc (B_alloc (B_refl w) (.cells #[.int .i64 top, (.slice A1 r.first.length c1), (.slice A2 r.idle.length c2), (.slice A3 r.op.length c3), (.slice A4 r.gr.length c4), (.slice A5 r.en.length c5)] 42)) (.cells #[.int .i64 (2), .int .i64 id, .int .i64 fk, .string data, .string text] 36)) (.cells #[.int .i64 0, .slice none 0 0, .slice none 0 0, .slice none 0 0, .slice none 0 0, .slice none 0 0] 42))
  have HW0 := Lib.hid (Blk.alloc (Blk.alloc (Blk.new w 42 #[.int .i64 top, (.slice A1 r.first.length c1), (.slice A2 r.idle.length c2), (.slice A3 r.op.length c3), (.slice A4 r.gr.length c4), (.slice A5 r.en.length c5)]) (.cells #[.int .i64 (2), .int .i64 id, .int .i64 fk, .string data, .string text] 36)) (.cells #[.int .i64 0, .slice none 0 0, .slice none 0 0, .slice none 0 0, .slice none 0 0, .slice none 0 0] 42))
  have HO0 := Lib.hid (Blk.alloc (show Blk ((w.alloc (.cells #[.int .i64 top, (.slice A1 r.first.length c1), (.slice A2 r.idle.length c2), (.slice A3 r.op.length c3), (.slice A4 r.gr.length c4), (.slice A5 r.en.length c5)] 42)).alloc (.cells #[.int .i64 (2), .int .i64 id, .int .i64 fk, .string data, .string text] 36)) (w.heap.size + 1) 36 #[.int .i64 (2), .int .i64 id, .int .i64 fk, .string data, .string text] from heap_at_new _ (by simp)) (.cells #[.int .i64 0, .slice none 0 0, .slice none 0 0, .slice none 0 0, .slice none 0 0, .slice none 0 0] 42))
  have HR0 := Lib.hid (show Blk (((w.alloc (.cells #[.int .i64 top, (.slice A1 r.first.length c1), (.slice A2 r.idle.length c2), (.slice A3 r.op.length c3), (.slice A4 r.gr.length c4), (.slice A5 r.en.length c5)] 42)).alloc (.cells #[.int .i64 (2), .int .i64 id, .int .i64 fk, .string data, .string text] 36)).alloc (.cells #[.int .i64 0, .slice none 0 0, .slice none 0 0, .slice none 0 0, .slice none 0 0, .slice none 0 0] 42)) (w.heap.size + 1 + 1) 42 #[.int .i64 0, .slice none 0 0, .slice none 0 0, .slice none 0 0, .slice none 0 0, .slice none 0 0] from heap_at_new _ (by simp))
  go_enter Try.func16, Try.ntmps16
  go_wp2_with fail
  refine (HRT.out _).mono ?_
  rintro e w1 ⟨rfl, b1⟩
  have B1 := Lib.hid (show B w w1 from B_trans HB0.out b1)
  have HW1 := Lib.hid (HW0.out.b b1)
  have HO1 := Lib.hid (HO0.out.b b1)
  have HR1 := Lib.hid (HR0.out.b b1)
  have hs1 : w.heap.size + 1 + 1 < w1.heap.size := HR1.out.lt
  clear b1 HRT HB0 HW0 HO0 HR0
  have aw := HW1.out
  have a0 := aw.cell 0
  have a1 := aw.cell 1
  have a2 := aw.cell 2
  have a3 := aw.cell 3
  have a4 := aw.cell 4
  have a5 := aw.cell 5
  have al := aw.lt
  have af := fun i => aw.frozen i
  simp at a0 a1 a2 a3 a4 a5
  clear aw
  have ew := HO1.out
  have e0 := ew.cell 0
  have e1 := ew.cell 1
  have e2 := ew.cell 2
  have el := ew.lt
  have ef := fun i => ew.frozen i
  simp at e0 e1 e2
  clear ew
  have zw := HR1.out
  have z0 := zw.cell 0
  have z1 := zw.cell 1
  have z2 := zw.cell 2
  have z3 := zw.cell 3
  have z4 := zw.cell 4
  have z5 := zw.cell 5
  have zl := zw.lt
  have zf := fun i => zw.frozen i
  simp at z0 z1 z2 z3 z4 z5
  clear zw
  go_wp2_with fail
  refine (HEN.out _ (by repeat (first | with_reducible exact B1.out | refine B_setCell ?_ (by first | (simp; done) | (simp; omega)) _ | refine B_drewN ?_ _ | refine B_drew ?_))).mono ?_
  rintro e w2 ⟨rfl, rfl⟩
  go_wp2_with fail
  refine (HTH.out _ (by repeat (first | with_reducible exact B1.out | refine B_setCell ?_ (by first | (simp; done) | (simp; omega)) _ | refine B_drewN ?_ _ | refine B_drew ?_))).mono ?_
  rintro e w3 ⟨rfl, b3⟩
  have B3 := Lib.hid (show B w w3 from B_trans (by repeat (first | with_reducible exact B1.out | refine B_setCell ?_ (by first | (simp; done) | (simp; omega)) _ | refine B_drewN ?_ _ | refine B_drew ?_)) b3)
  have HW3 := Lib.hid (Blk.b (show Blk _ w.heap.size 42 #[.int .i64 top, (.slice A1 r.first.length c1), (.slice A2 r.idle.length c2), (.slice A3 r.op.length c3), (.slice A4 r.gr.length c4), (.slice A5 r.en.length c5)] by repeat (first | with_reducible exact HW1.out | refine Blk.drew ?_ | refine Blk.drewN ?_ _)) b3)
  have HO3 := Lib.hid (Blk.b (show Blk _ (w.heap.size + 1) 36 #[.int .i64 (2), .int .i64 id, .int .i64 fk, .string data, .string text] by repeat (first | with_reducible exact HO1.out | refine Blk.drew ?_ | refine Blk.drewN ?_ _)) b3)
  have HR3 := Lib.hid (Blk.b (show Blk _ (w.heap.size + 1 + 1) 42 #[.int .i64 0, .slice none 0 0, .slice none 0 0, .slice none 0 0, .slice none 0 0, .slice none 0 0] by repeat (first | with_reducible exact HR1.out | refine Blk.drew ?_ | refine Blk.drewN ?_ _)) b3)
  have hs3 : w.heap.size + 1 + 1 < w3.heap.size := HR3.out.lt
  clear a0 a1 a2 a3 a4 a5 al af
  clear e0 e1 e2 el ef
  clear z0 z1 z2 z3 z4 z5 zl zf
  clear b3 B1 HW1 HO1 HR1 hs1 HEN HTH
  have aw := HW3.out
  have a0 := aw.cell 0
  have a1 := aw.cell 1
  have a2 := aw.cell 2
  have a3 := aw.cell 3
  have a4 := aw.cell 4
  have a5 := aw.cell 5
  have al := aw.lt
  have af := fun i => aw.frozen i
  simp at a0 a1 a2 a3 a4 a5
  clear aw
  have ew := HO3.out
  have e0 := ew.cell 0
  have e1 := ew.cell 1
  have e2 := ew.cell 2
  have el := ew.lt
  have ef := fun i => ew.frozen i
  simp at e0 e1 e2
  clear ew
  have zw := HR3.out
  have z0 := zw.cell 0
  have z1 := zw.cell 1
  have z2 := zw.cell 2
  have z3 := zw.cell 3
  have z4 := zw.cell 4
  have z5 := zw.cell 5
  have zl := zw.lt
  have zf := fun i => zw.frozen i
  simp at z0 z1 z2 z3 z4 z5
  clear zw
  go_wp2_with fail
  refine (HL0.out _ (by repeat (first | with_reducible exact B3.out | refine B_setCell ?_ (by first | (simp; done) | (simp; omega)) _ | refine B_drewN ?_ _ | refine B_drew ?_))).mono ?_
  rintro e u0 ⟨B0, d0', n0, rfl, q0', x0, b0'⟩
  have Bu0 := Lib.hid (show B w u0 from B_trans (by repeat (first | with_reducible exact B3.out | refine B_setCell ?_ (by first | (simp; done) | (simp; omega)) _ | refine B_drewN ?_ _ | refine B_drew ?_)) b0')
  have Q0 := Lib.hid q0'
  have X0 := Lib.hid (show ∀ g, Value.ownBlock (.slice B0 n0 d0') = some g → w.heap.size + 3 ≤ g from fun g hg => by have := x0 g hg; first | omega | (simp at this; omega))
  have HWu0 := Lib.hid (Blk.b (show Blk _ w.heap.size 42 #[.int .i64 id, (.slice A1 r.first.length c1), (.slice A2 r.idle.length c2), (.slice A3 r.op.length c3), (.slice A4 r.gr.length c4), (.slice A5 r.en.length c5)] from (HW3.out.set_ 0 _)) b0')
  have HOu0 := Lib.hid (Blk.b (show Blk _ (w.heap.size + 1) 36 #[.int .i64 (2), .int .i64 id, .int .i64 fk, .string data, .string text] from (HO3.out.far (p := ⟨w.heap.size, 0, none⟩) (by show w.heap.size + 1 ≠ w.heap.size; omega) _)) b0')
  have HRu0 := Lib.hid (Blk.b (show Blk _ (w.heap.size + 1 + 1) 42 #[.int .i64 0, .slice none 0 0, .slice none 0 0, .slice none 0 0, .slice none 0 0, .slice none 0 0] from (HR3.out.far (p := ⟨w.heap.size, 0, none⟩) (by show w.heap.size + 1 + 1 ≠ w.heap.size; omega) _)) b0')
  have hsu0 : w.heap.size + 1 + 1 < u0.heap.size := HRu0.out.lt
  clear a0 a1 a2 a3 a4 a5 al af
  clear e0 e1 e2 el ef
  clear z0 z1 z2 z3 z4 z5 zl zf
  clear b0' q0' x0 HL0 B3 HW3 HO3 HR3 hs3
  have aw := HWu0.out
  have a0 := aw.cell 0
  have a1 := aw.cell 1
  have a2 := aw.cell 2
  have a3 := aw.cell 3
  have a4 := aw.cell 4
  have a5 := aw.cell 5
  have al := aw.lt
  have af := fun i => aw.frozen i
  simp at a0 a1 a2 a3 a4 a5
  clear aw
  have ew := HOu0.out
  have e0 := ew.cell 0
  have e1 := ew.cell 1
  have e2 := ew.cell 2
  have el := ew.lt
  have ef := fun i => ew.frozen i
  simp at e0 e1 e2
  clear ew
  have zw := HRu0.out
  have z0 := zw.cell 0
  have z1 := zw.cell 1
  have z2 := zw.cell 2
  have z3 := zw.cell 3
  have z4 := zw.cell 4
  have z5 := zw.cell 5
  have zl := zw.lt
  have zf := fun i => zw.frozen i
  simp at z0 z1 z2 z3 z4 z5
  clear zw
  go_wp2_with fail
  refine sees_end (by rfl) (by rfl) (show Blk _ (w.heap.size + 1 + 1) 42 #[.int .i64 id, (.slice B0 n0 d0'), (.slice A2 r.idle.length c2), (.slice A3 r.op.length c3), (.slice A4 r.gr.length c4), (.slice A5 r.en.length c5)] from (((((((HRu0.out.far (p := ⟨w.heap.size, 1, none⟩) (by show w.heap.size + 1 + 1 ≠ w.heap.size; omega) _).set_ 0 _).set_ 1 _).set_ 2 _).set_ 3 _).set_ 4 _).set_ 5 _)) ?_
  refine HFIN.out _ B0 d0' n0 ?_ ?_
  · repeat (first | with_reducible exact Q0.out | refine IsL.far ?_ (fun g hg => by have := X0.out g hg; first | (show g ≠ w.heap.size; omega) | (show g ≠ w.heap.size + 1 + 1; omega)) _)
  · repeat (first | with_reducible exact Bu0.out | refine B_setCell ?_ (by first | (simp; done) | (simp; omega)) _ | refine B_drewN ?_ _ | refine B_drew ?_)
set_option maxRecDepth 100000 in
set_option maxHeartbeats 8000000 in
theorem see_3_none (w : World) (id fk : Int) (data text : ByteArray) (v1 v2 v3 v4 v5 : Value) (r : RW) (hf : Few r 1000) (h : RWV w v1 v2 v3 v4 v5 r) (ht : text.size ≤ 9999) (hr : rightV ⟨3, id, fk, data, text⟩ = true) (hth : thereR r id = false) :
    Calls Try.prog 16 #[.agg #[.int .i64 r.top, v1, v2, v3, v4, v5], .agg #[.int .i64 (3), .int .i64 id, .int .i64 fk, .string data, .string text]] w (SeePost w (r, 5)) := by
  have HRT := Lib.hid (show ∀ W, Calls Try.prog 27 #[.agg #[.int .i64 (3), .int .i64 id, .int .i64 fk, .string data, .string text]] W fun e w' => e = .returned (.bool true) ∧ B W w' from fun W => by
    have := refright_any ⟨3, id, fk, data, text⟩ ht W
    rw [hr] at this
    exact this)
  have HEN := Lib.hid (fun W (hb : B w W) => has_v W v5 r.en id (by have := hf.l5; omega) (h.h5.below hb))
  have HTH := Lib.hid (fun W (hb : B w W) => there_any W r.top id v1 v2 v3 v4 v5 r hf (h.below hb))
  generalize decide (id ∈ r.en) = qe at HEN
  rw [hth] at HTH
  obtain ⟨top, htop⟩ : ∃ top, r.top = top := ⟨_, rfl⟩
  have HH := Lib.hid h
  obtain ⟨⟨A1, c1, rfl, -⟩, ⟨A2, c2, rfl, -⟩, ⟨A3, c3, rfl, -⟩, ⟨A4, c4, rfl, -⟩, ⟨A5, c5, rfl, -⟩⟩ := h
  have HFIN := Lib.hid (show ∀ W, B w W → SeePost w (r, 5) (.returned (.tuple #[.agg #[.int .i64 top, (.slice A1 r.first.length c1), (.slice A2 r.idle.length c2), (.slice A3 r.op.length c3), (.slice A4 r.gr.length c4), (.slice A5 r.en.length c5)], .int .i64 5])) W from fun W hb => ⟨_, _, _, _, _, by rw [← htop], ⟨HH.out.h1.below hb, HH.out.h2.below hb, HH.out.h3.below hb, HH.out.h4.below hb, HH.out.h5.below hb⟩, hb⟩)
  try rw [htop] at HFIN
  rw [htop] at HTH ⊢
  clear htop hf hr ht
  have HB0 := Lib.hid (B_alloc (B_alloc (B_alloc (B_refl w) (.cells #[.int .i64 top, (.slice A1 r.first.length c1), (.slice A2 r.idle.length c2), (.slice A3 r.op.length c3), (.slice A4 r.gr.length c4), (.slice A5 r.en.length c5)] 42)) (.cells #[.int .i64 (3), .int .i64 id, .int .i64 fk, .string data, .string text] 36)) (.cells #[.int .i64 0, .slice none 0 0, .slice none 0 0, .slice none 0 0, .slice none 0 0, .slice none 0 0] 42))
  have HW0 := Lib.hid (Blk.alloc (Blk.alloc (Blk.new w 42 #[.int .i64 top, (.slice A1 r.first.length c1), (.slice A2 r.idle.length c2), (.slice A3 r.op.length c3), (.slice A4 r.gr.length c4), (.slice A5 r.en.length c5)]) (.cells #[.int .i64 (3), .int .i64 id, .int .i64 fk, .string data, .string text] 36)) (.cells #[.int .i64 0, .slice none 0 0, .slice none 0 0, .slice none 0 0, .slice none 0 0, .slice none 0 0] 42))
  have HO0 := Lib.hid (Blk.alloc (show Blk ((w.alloc (.cells #[.int .i64 top, (.slice A1 r.first.length c1), (.slice A2 r.idle.length c2), (.slice A3 r.op.length c3), (.slice A4 r.gr.length c4), (.slice A5 r.en.length c5)] 42)).alloc (.cells #[.int .i64 (3), .int .i64 id, .int .i64 fk, .string data, .string text] 36)) (w.heap.size + 1) 36 #[.int .i64 (3), .int .i64 id, .int .i64 fk, .string data, .string text] from heap_at_new _ (by simp)) (.cells #[.int .i64 0, .slice none 0 0, .slice none 0 0, .slice none 0 0, .slice none 0 0, .slice none 0 0] 42))
  have HR0 := Lib.hid (show Blk (((w.alloc (.cells #[.int .i64 top, (.slice A1 r.first.length c1), (.slice A2 r.idle.length c2), (.slice A3 r.op.length c3), (.slice A4 r.gr.length c4), (.slice A5 r.en.length c5)] 42)).alloc (.cells #[.int .i64 (3), .int .i64 id, .int .i64 fk, .string data, .string text] 36)).alloc (.cells #[.int .i64 0, .slice none 0 0, .slice none 0 0, .slice none 0 0, .slice none 0 0, .slice none 0 0] 42)) (w.heap.size + 1 + 1) 42 #[.int .i64 0, .slice none 0 0, .slice none 0 0, .slice none 0 0, .slice none 0 0, .slice none 0 0] from heap_at_new _ (by simp))
  go_enter Try.func16, Try.ntmps16
  go_wp2_with fail
  refine (HRT.out _).mono ?_
  rintro e w1 ⟨rfl, b1⟩
  have B1 := Lib.hid (show B w w1 from B_trans HB0.out b1)
  have HW1 := Lib.hid (HW0.out.b b1)
  have HO1 := Lib.hid (HO0.out.b b1)
  have HR1 := Lib.hid (HR0.out.b b1)
  have hs1 : w.heap.size + 1 + 1 < w1.heap.size := HR1.out.lt
  clear b1 HRT HB0 HW0 HO0 HR0
  have aw := HW1.out
  have a0 := aw.cell 0
  have a1 := aw.cell 1
  have a2 := aw.cell 2
  have a3 := aw.cell 3
  have a4 := aw.cell 4
  have a5 := aw.cell 5
  have al := aw.lt
  have af := fun i => aw.frozen i
  simp at a0 a1 a2 a3 a4 a5
  clear aw
  have ew := HO1.out
  have e0 := ew.cell 0
  have e1 := ew.cell 1
  have e2 := ew.cell 2
  have el := ew.lt
  have ef := fun i => ew.frozen i
  simp at e0 e1 e2
  clear ew
  have zw := HR1.out
  have z0 := zw.cell 0
  have z1 := zw.cell 1
  have z2 := zw.cell 2
  have z3 := zw.cell 3
  have z4 := zw.cell 4
  have z5 := zw.cell 5
  have zl := zw.lt
  have zf := fun i => zw.frozen i
  simp at z0 z1 z2 z3 z4 z5
  clear zw
  go_wp2_with fail
  refine (HEN.out _ (by repeat (first | with_reducible exact B1.out | refine B_setCell ?_ (by first | (simp; done) | (simp; omega)) _ | refine B_drewN ?_ _ | refine B_drew ?_))).mono ?_
  rintro e w2 ⟨rfl, rfl⟩
  go_wp2_with fail
  refine (HTH.out _ (by repeat (first | with_reducible exact B1.out | refine B_setCell ?_ (by first | (simp; done) | (simp; omega)) _ | refine B_drewN ?_ _ | refine B_drew ?_))).mono ?_
  rintro e w3 ⟨rfl, b3⟩
  have B3 := Lib.hid (show B w w3 from B_trans (by repeat (first | with_reducible exact B1.out | refine B_setCell ?_ (by first | (simp; done) | (simp; omega)) _ | refine B_drewN ?_ _ | refine B_drew ?_)) b3)
  have HW3 := Lib.hid (Blk.b (show Blk _ w.heap.size 42 #[.int .i64 top, (.slice A1 r.first.length c1), (.slice A2 r.idle.length c2), (.slice A3 r.op.length c3), (.slice A4 r.gr.length c4), (.slice A5 r.en.length c5)] by repeat (first | with_reducible exact HW1.out | refine Blk.drew ?_ | refine Blk.drewN ?_ _)) b3)
  have HO3 := Lib.hid (Blk.b (show Blk _ (w.heap.size + 1) 36 #[.int .i64 (3), .int .i64 id, .int .i64 fk, .string data, .string text] by repeat (first | with_reducible exact HO1.out | refine Blk.drew ?_ | refine Blk.drewN ?_ _)) b3)
  have HR3 := Lib.hid (Blk.b (show Blk _ (w.heap.size + 1 + 1) 42 #[.int .i64 0, .slice none 0 0, .slice none 0 0, .slice none 0 0, .slice none 0 0, .slice none 0 0] by repeat (first | with_reducible exact HR1.out | refine Blk.drew ?_ | refine Blk.drewN ?_ _)) b3)
  have hs3 : w.heap.size + 1 + 1 < w3.heap.size := HR3.out.lt
  clear a0 a1 a2 a3 a4 a5 al af
  clear e0 e1 e2 el ef
  clear z0 z1 z2 z3 z4 z5 zl zf
  clear b3 B1 HW1 HO1 HR1 hs1 HEN HTH
  have aw := HW3.out
  have a0 := aw.cell 0
  have a1 := aw.cell 1
  have a2 := aw.cell 2
  have a3 := aw.cell 3
  have a4 := aw.cell 4
  have a5 := aw.cell 5
  have al := aw.lt
  have af := fun i => aw.frozen i
  simp at a0 a1 a2 a3 a4 a5
  clear aw
  have ew := HO3.out
  have e0 := ew.cell 0
  have e1 := ew.cell 1
  have e2 := ew.cell 2
  have el := ew.lt
  have ef := fun i => ew.frozen i
  simp at e0 e1 e2
  clear ew
  have zw := HR3.out
  have z0 := zw.cell 0
  have z1 := zw.cell 1
  have z2 := zw.cell 2
  have z3 := zw.cell 3
  have z4 := zw.cell 4
  have z5 := zw.cell 5
  have zl := zw.lt
  have zf := fun i => zw.frozen i
  simp at z0 z1 z2 z3 z4 z5
  clear zw
  go_wp2_with fail
  refine sees_end (by rfl) (by rfl) (show Blk _ (w.heap.size + 1 + 1) 42 #[.int .i64 top, (.slice A1 r.first.length c1), (.slice A2 r.idle.length c2), (.slice A3 r.op.length c3), (.slice A4 r.gr.length c4), (.slice A5 r.en.length c5)] from ((((((HR3.out.set_ 0 _).set_ 1 _).set_ 2 _).set_ 3 _).set_ 4 _).set_ 5 _)) ?_
  refine HFIN.out _ ?_
  · repeat (first | with_reducible exact B3.out | refine B_setCell ?_ (by first | (simp; done) | (simp; omega)) _ | refine B_drewN ?_ _ | refine B_drew ?_)
set_option maxRecDepth 100000 in
set_option maxHeartbeats 8000000 in
theorem see_3_yes (w : World) (id fk : Int) (data text : ByteArray) (v1 v2 v3 v4 v5 : Value) (r : RW) (hf : Few r 1000) (h : RWV w v1 v2 v3 v4 v5 r) (ht : text.size ≤ 9999) (hr : rightV ⟨3, id, fk, data, text⟩ = true) (hth : thereR r id = true) :
    Calls Try.prog 16 #[.agg #[.int .i64 r.top, v1, v2, v3, v4, v5], .agg #[.int .i64 (3), .int .i64 id, .int .i64 fk, .string data, .string text]] w (SeePost w (({ r with first := less r.first id, idle := less r.idle id, op := less r.op id } : RW), 0)) := by
  have HRT := Lib.hid (show ∀ W, Calls Try.prog 27 #[.agg #[.int .i64 (3), .int .i64 id, .int .i64 fk, .string data, .string text]] W fun e w' => e = .returned (.bool true) ∧ B W w' from fun W => by
    have := refright_any ⟨3, id, fk, data, text⟩ ht W
    rw [hr] at this
    exact this)
  have HEN := Lib.hid (fun W (hb : B w W) => has_v W v5 r.en id (by have := hf.l5; omega) (h.h5.below hb))
  have HTH := Lib.hid (fun W (hb : B w W) => there_any W r.top id v1 v2 v3 v4 v5 r hf (h.below hb))
  generalize decide (id ∈ r.en) = qe at HEN
  rw [hth] at HTH
  have HL0 := Lib.hid (fun W (hb : B w W) => less_v W v1 r.first id (by have := hf.l1; omega) (h.h1.below hb))
  unfold ToL at HL0
  have HL1 := Lib.hid (fun W (hb : B w W) => less_v W v2 r.idle id (by have := hf.l2; omega) (h.h2.below hb))
  unfold ToL at HL1
  have HL2 := Lib.hid (fun W (hb : B w W) => less_v W v3 r.op id (by have := hf.l3; omega) (h.h3.below hb))
  unfold ToL at HL2
  obtain ⟨top, htop⟩ : ∃ top, r.top = top := ⟨_, rfl⟩
  have HH := Lib.hid h
  obtain ⟨⟨A1, c1, rfl, -⟩, ⟨A2, c2, rfl, -⟩, ⟨A3, c3, rfl, -⟩, ⟨A4, c4, rfl, -⟩, ⟨A5, c5, rfl, -⟩⟩ := h
  have HFIN := Lib.hid (show ∀ W B0 d0' n0 B1 d1' n1 B2 d2' n2, IsL W (.slice B0 n0 d0') (less r.first id) → IsL W (.slice B1 n1 d1') (less r.idle id) → IsL W (.slice B2 n2 d2') (less r.op id) → B w W → SeePost w (({ r with first := less r.first id, idle := less r.idle id, op := less r.op id } : RW), 0) (.returned (.tuple #[.agg #[.int .i64 top, (.slice B0 n0 d0'), (.slice B1 n1 d1'), (.slice B2 n2 d2'), (.slice A4 r.gr.length c4), (.slice A5 r.en.length c5)], .int .i64 0])) W from fun W B0 d0' n0 B1 d1' n1 B2 d2' n2 q0 q1 q2 hb => ⟨_, _, _, _, _, by rw [← htop], ⟨q0, q1, q2, HH.out.h4.below hb, HH.out.h5.below hb⟩, hb⟩)
  try rw [htop] at HFIN
  rw [htop] at HTH ⊢
  clear htop hf hr ht
  have HB0 := Lib.hid (B_alloc (B_alloc (B_alloc (B_refl w) (.cells #[.int .i64 top, (.slice A1 r.first.length c1), (.slice A2 r.idle.length c2), (.slice A3 r.op.length c3), (.slice A4 r.gr.length c4), (.slice A5 r.en.length c5)] 42)) (.cells #[.int .i64 (3), .int .i64 id, .int .i64 fk, .string data, .string text] 36)) (.cells #[.int .i64 0, .slice none 0 0, .slice none 0 0, .slice none 0 0, .slice none 0 0, .slice none 0 0] 42))
  have HW0 := Lib.hid (Blk.alloc (Blk.alloc (Blk.new w 42 #[.int .i64 top, (.slice A1 r.first.length c1), (.slice A2 r.idle.length c2), (.slice A3 r.op.length c3), (.slice A4 r.gr.length c4), (.slice A5 r.en.length c5)]) (.cells #[.int .i64 (3), .int .i64 id, .int .i64 fk, .string data, .string text] 36)) (.cells #[.int .i64 0, .slice none 0 0, .slice none 0 0, .slice none 0 0, .slice none 0 0, .slice none 0 0] 42))
  have HO0 := Lib.hid (Blk.alloc (show Blk ((w.alloc (.cells #[.int .i64 top, (.slice A1 r.first.length c1), (.slice A2 r.idle.length c2), (.slice A3 r.op.length c3), (.slice A4 r.gr.length c4), (.slice A5 r.en.length c5)] 42)).alloc (.cells #[.int .i64 (3), .int .i64 id, .int .i64 fk, .string data, .string text] 36)) (w.heap.size + 1) 36 #[.int .i64 (3), .int .i64 id, .int .i64 fk, .string data, .string text] from heap_at_new _ (by simp)) (.cells #[.int .i64 0, .slice none 0 0, .slice none 0 0, .slice none 0 0, .slice none 0 0, .slice none 0 0] 42))
  have HR0 := Lib.hid (show Blk (((w.alloc (.cells #[.int .i64 top, (.slice A1 r.first.length c1), (.slice A2 r.idle.length c2), (.slice A3 r.op.length c3), (.slice A4 r.gr.length c4), (.slice A5 r.en.length c5)] 42)).alloc (.cells #[.int .i64 (3), .int .i64 id, .int .i64 fk, .string data, .string text] 36)).alloc (.cells #[.int .i64 0, .slice none 0 0, .slice none 0 0, .slice none 0 0, .slice none 0 0, .slice none 0 0] 42)) (w.heap.size + 1 + 1) 42 #[.int .i64 0, .slice none 0 0, .slice none 0 0, .slice none 0 0, .slice none 0 0, .slice none 0 0] from heap_at_new _ (by simp))
  go_enter Try.func16, Try.ntmps16
  go_wp2_with fail
  refine (HRT.out _).mono ?_
  rintro e w1 ⟨rfl, b1⟩
  have B1 := Lib.hid (show B w w1 from B_trans HB0.out b1)
  have HW1 := Lib.hid (HW0.out.b b1)
  have HO1 := Lib.hid (HO0.out.b b1)
  have HR1 := Lib.hid (HR0.out.b b1)
  have hs1 : w.heap.size + 1 + 1 < w1.heap.size := HR1.out.lt
  clear b1 HRT HB0 HW0 HO0 HR0
  have aw := HW1.out
  have a0 := aw.cell 0
  have a1 := aw.cell 1
  have a2 := aw.cell 2
  have a3 := aw.cell 3
  have a4 := aw.cell 4
  have a5 := aw.cell 5
  have al := aw.lt
  have af := fun i => aw.frozen i
  simp at a0 a1 a2 a3 a4 a5
  clear aw
  have ew := HO1.out
  have e0 := ew.cell 0
  have e1 := ew.cell 1
  have e2 := ew.cell 2
  have el := ew.lt
  have ef := fun i => ew.frozen i
  simp at e0 e1 e2
  clear ew
  have zw := HR1.out
  have z0 := zw.cell 0
  have z1 := zw.cell 1
  have z2 := zw.cell 2
  have z3 := zw.cell 3
  have z4 := zw.cell 4
  have z5 := zw.cell 5
  have zl := zw.lt
  have zf := fun i => zw.frozen i
  simp at z0 z1 z2 z3 z4 z5
  clear zw
  go_wp2_with fail
  refine (HEN.out _ (by repeat (first | with_reducible exact B1.out | refine B_setCell ?_ (by first | (simp; done) | (simp; omega)) _ | refine B_drewN ?_ _ | refine B_drew ?_))).mono ?_
  rintro e w2 ⟨rfl, rfl⟩
  go_wp2_with fail
  refine (HTH.out _ (by repeat (first | with_reducible exact B1.out | refine B_setCell ?_ (by first | (simp; done) | (simp; omega)) _ | refine B_drewN ?_ _ | refine B_drew ?_))).mono ?_
  rintro e w3 ⟨rfl, b3⟩
  have B3 := Lib.hid (show B w w3 from B_trans (by repeat (first | with_reducible exact B1.out | refine B_setCell ?_ (by first | (simp; done) | (simp; omega)) _ | refine B_drewN ?_ _ | refine B_drew ?_)) b3)
  have HW3 := Lib.hid (Blk.b (show Blk _ w.heap.size 42 #[.int .i64 top, (.slice A1 r.first.length c1), (.slice A2 r.idle.length c2), (.slice A3 r.op.length c3), (.slice A4 r.gr.length c4), (.slice A5 r.en.length c5)] by repeat (first | with_reducible exact HW1.out | refine Blk.drew ?_ | refine Blk.drewN ?_ _)) b3)
  have HO3 := Lib.hid (Blk.b (show Blk _ (w.heap.size + 1) 36 #[.int .i64 (3), .int .i64 id, .int .i64 fk, .string data, .string text] by repeat (first | with_reducible exact HO1.out | refine Blk.drew ?_ | refine Blk.drewN ?_ _)) b3)
  have HR3 := Lib.hid (Blk.b (show Blk _ (w.heap.size + 1 + 1) 42 #[.int .i64 0, .slice none 0 0, .slice none 0 0, .slice none 0 0, .slice none 0 0, .slice none 0 0] by repeat (first | with_reducible exact HR1.out | refine Blk.drew ?_ | refine Blk.drewN ?_ _)) b3)
  have hs3 : w.heap.size + 1 + 1 < w3.heap.size := HR3.out.lt
  clear a0 a1 a2 a3 a4 a5 al af
  clear e0 e1 e2 el ef
  clear z0 z1 z2 z3 z4 z5 zl zf
  clear b3 B1 HW1 HO1 HR1 hs1 HEN HTH
  have aw := HW3.out
  have a0 := aw.cell 0
  have a1 := aw.cell 1
  have a2 := aw.cell 2
  have a3 := aw.cell 3
  have a4 := aw.cell 4
  have a5 := aw.cell 5
  have al := aw.lt
  have af := fun i => aw.frozen i
  simp at a0 a1 a2 a3 a4 a5
  clear aw
  have ew := HO3.out
  have e0 := ew.cell 0
  have e1 := ew.cell 1
  have e2 := ew.cell 2
  have el := ew.lt
  have ef := fun i => ew.frozen i
  simp at e0 e1 e2
  clear ew
  have zw := HR3.out
  have z0 := zw.cell 0
  have z1 := zw.cell 1
  have z2 := zw.cell 2
  have z3 := zw.cell 3
  have z4 := zw.cell 4
  have z5 := zw.cell 5
  have zl := zw.lt
  have zf := fun i => zw.frozen i
  simp at z0 z1 z2 z3 z4 z5
  clear zw
  go_wp2_with fail
  refine (HL0.out _ (by repeat (first | with_reducible exact B3.out | refine B_setCell ?_ (by first | (simp; done) | (simp; omega)) _ | refine B_drewN ?_ _ | refine B_drew ?_))).mono ?_
  rintro e u0 ⟨B0, d0', n0, rfl, q0', x0, b0'⟩
  have Bu0 := Lib.hid (show B w u0 from B_trans (by repeat (first | with_reducible exact B3.out | refine B_setCell ?_ (by first | (simp; done) | (simp; omega)) _ | refine B_drewN ?_ _ | refine B_drew ?_)) b0')
  have Q0 := Lib.hid q0'
  have X0 := Lib.hid (show ∀ g, Value.ownBlock (.slice B0 n0 d0') = some g → w.heap.size + 3 ≤ g from fun g hg => by have := x0 g hg; first | omega | (simp at this; omega))
  have HWu0 := Lib.hid (Blk.b (show Blk _ w.heap.size 42 #[.int .i64 top, (.slice A1 r.first.length c1), (.slice A2 r.idle.length c2), (.slice A3 r.op.length c3), (.slice A4 r.gr.length c4), (.slice A5 r.en.length c5)] from HW3.out) b0')
  have HOu0 := Lib.hid (Blk.b (show Blk _ (w.heap.size + 1) 36 #[.int .i64 (3), .int .i64 id, .int .i64 fk, .string data, .string text] from HO3.out) b0')
  have HRu0 := Lib.hid (Blk.b (show Blk _ (w.heap.size + 1 + 1) 42 #[.int .i64 0, .slice none 0 0, .slice none 0 0, .slice none 0 0, .slice none 0 0, .slice none 0 0] from HR3.out) b0')
  have hsu0 : w.heap.size + 1 + 1 < u0.heap.size := HRu0.out.lt
  clear a0 a1 a2 a3 a4 a5 al af
  clear e0 e1 e2 el ef
  clear z0 z1 z2 z3 z4 z5 zl zf
  clear b0' q0' x0 HL0 B3 HW3 HO3 HR3 hs3
  have aw := HWu0.out
  have a0 := aw.cell 0
  have a1 := aw.cell 1
  have a2 := aw.cell 2
  have a3 := aw.cell 3
  have a4 := aw.cell 4
  have a5 := aw.cell 5
  have al := aw.lt
  have af := fun i => aw.frozen i
  simp at a0 a1 a2 a3 a4 a5
  clear aw
  have ew := HOu0.out
  have e0 := ew.cell 0
  have e1 := ew.cell 1
  have e2 := ew.cell 2
  have el := ew.lt
  have ef := fun i => ew.frozen i
  simp at e0 e1 e2
  clear ew
  have zw := HRu0.out
  have z0 := zw.cell 0
  have z1 := zw.cell 1
  have z2 := zw.cell 2
  have z3 := zw.cell 3
  have z4 := zw.cell 4
  have z5 := zw.cell 5
  have zl := zw.lt
  have zf := fun i => zw.frozen i
  simp at z0 z1 z2 z3 z4 z5
  clear zw
  go_wp2_with fail
  refine (HL1.out _ (by repeat (first | with_reducible exact Bu0.out | refine B_setCell ?_ (by first | (simp; done) | (simp; omega)) _ | refine B_drewN ?_ _ | refine B_drew ?_))).mono ?_
  rintro e u1 ⟨B1, d1', n1, rfl, q1', x1, b1'⟩
  have Bu1 := Lib.hid (show B w u1 from B_trans (by repeat (first | with_reducible exact Bu0.out | refine B_setCell ?_ (by first | (simp; done) | (simp; omega)) _ | refine B_drewN ?_ _ | refine B_drew ?_)) b1')
  have Q1 := Lib.hid q1'
  have X1 := Lib.hid (show ∀ g, Value.ownBlock (.slice B1 n1 d1') = some g → w.heap.size + 3 ≤ g from fun g hg => by have := x1 g hg; first | omega | (simp at this; omega))
  have Q0' := Lib.hid (IsL.below ((Q0.out.far (p := ⟨w.heap.size, 1, none⟩) (fun g hg => by have := X0.out g hg; show g ≠ w.heap.size; omega) _)) b1')
  clear Q0
  have Q0 := Q0'
  clear Q0'
  have HWu1 := Lib.hid (Blk.b (show Blk _ w.heap.size 42 #[.int .i64 top, (.slice B0 n0 d0'), (.slice A2 r.idle.length c2), (.slice A3 r.op.length c3), (.slice A4 r.gr.length c4), (.slice A5 r.en.length c5)] from (HWu0.out.set_ 1 _)) b1')
  have HOu1 := Lib.hid (Blk.b (show Blk _ (w.heap.size + 1) 36 #[.int .i64 (3), .int .i64 id, .int .i64 fk, .string data, .string text] from (HOu0.out.far (p := ⟨w.heap.size, 1, none⟩) (by show w.heap.size + 1 ≠ w.heap.size; omega) _)) b1')
  have HRu1 := Lib.hid (Blk.b (show Blk _ (w.heap.size + 1 + 1) 42 #[.int .i64 0, .slice none 0 0, .slice none 0 0, .slice none 0 0, .slice none 0 0, .slice none 0 0] from (HRu0.out.far (p := ⟨w.heap.size, 1, none⟩) (by show w.heap.size + 1 + 1 ≠ w.heap.size; omega) _)) b1')
  have hsu1 : w.heap.size + 1 + 1 < u1.heap.size := HRu1.out.lt
  clear a0 a1 a2 a3 a4 a5 al af
  clear e0 e1 e2 el ef
  clear z0 z1 z2 z3 z4 z5 zl zf
  clear b1' q1' x1 HL1 Bu0 HWu0 HOu0 HRu0 hsu0
  have aw := HWu1.out
  have a0 := aw.cell 0
  have a1 := aw.cell 1
  have a2 := aw.cell 2
  have a3 := aw.cell 3
  have a4 := aw.cell 4
  have a5 := aw.cell 5
  have al := aw.lt
  have af := fun i => aw.frozen i
  simp at a0 a1 a2 a3 a4 a5
  clear aw
  have ew := HOu1.out
  have e0 := ew.cell 0
  have e1 := ew.cell 1
  have e2 := ew.cell 2
  have el := ew.lt
  have ef := fun i => ew.frozen i
  simp at e0 e1 e2
  clear ew
  have zw := HRu1.out
  have z0 := zw.cell 0
  have z1 := zw.cell 1
  have z2 := zw.cell 2
  have z3 := zw.cell 3
  have z4 := zw.cell 4
  have z5 := zw.cell 5
  have zl := zw.lt
  have zf := fun i => zw.frozen i
  simp at z0 z1 z2 z3 z4 z5
  clear zw
  go_wp2_with fail
  refine (HL2.out _ (by repeat (first | with_reducible exact Bu1.out | refine B_setCell ?_ (by first | (simp; done) | (simp; omega)) _ | refine B_drewN ?_ _ | refine B_drew ?_))).mono ?_
  rintro e u2 ⟨B2, d2', n2, rfl, q2', x2, b2'⟩
  have Bu2 := Lib.hid (show B w u2 from B_trans (by repeat (first | with_reducible exact Bu1.out | refine B_setCell ?_ (by first | (simp; done) | (simp; omega)) _ | refine B_drewN ?_ _ | refine B_drew ?_)) b2')
  have Q2 := Lib.hid q2'
  have X2 := Lib.hid (show ∀ g, Value.ownBlock (.slice B2 n2 d2') = some g → w.heap.size + 3 ≤ g from fun g hg => by have := x2 g hg; first | omega | (simp at this; omega))
  have Q0' := Lib.hid (IsL.below ((Q0.out.far (p := ⟨w.heap.size, 2, none⟩) (fun g hg => by have := X0.out g hg; show g ≠ w.heap.size; omega) _)) b2')
  clear Q0
  have Q0 := Q0'
  clear Q0'
  have Q1' := Lib.hid (IsL.below ((Q1.out.far (p := ⟨w.heap.size, 2, none⟩) (fun g hg => by have := X1.out g hg; show g ≠ w.heap.size; omega) _)) b2')
  clear Q1
  have Q1 := Q1'
  clear Q1'
  have HWu2 := Lib.hid (Blk.b (show Blk _ w.heap.size 42 #[.int .i64 top, (.slice B0 n0 d0'), (.slice B1 n1 d1'), (.slice A3 r.op.length c3), (.slice A4 r.gr.length c4), (.slice A5 r.en.length c5)] from (HWu1.out.set_ 2 _)) b2')
  have HOu2 := Lib.hid (Blk.b (show Blk _ (w.heap.size + 1) 36 #[.int .i64 (3), .int .i64 id, .int .i64 fk, .string data, .string text] from (HOu1.out.far (p := ⟨w.heap.size, 2, none⟩) (by show w.heap.size + 1 ≠ w.heap.size; omega) _)) b2')
  have HRu2 := Lib.hid (Blk.b (show Blk _ (w.heap.size + 1 + 1) 42 #[.int .i64 0, .slice none 0 0, .slice none 0 0, .slice none 0 0, .slice none 0 0, .slice none 0 0] from (HRu1.out.far (p := ⟨w.heap.size, 2, none⟩) (by show w.heap.size + 1 + 1 ≠ w.heap.size; omega) _)) b2')
  have hsu2 : w.heap.size + 1 + 1 < u2.heap.size := HRu2.out.lt
  clear a0 a1 a2 a3 a4 a5 al af
  clear e0 e1 e2 el ef
  clear z0 z1 z2 z3 z4 z5 zl zf
  clear b2' q2' x2 HL2 Bu1 HWu1 HOu1 HRu1 hsu1
  have aw := HWu2.out
  have a0 := aw.cell 0
  have a1 := aw.cell 1
  have a2 := aw.cell 2
  have a3 := aw.cell 3
  have a4 := aw.cell 4
  have a5 := aw.cell 5
  have al := aw.lt
  have af := fun i => aw.frozen i
  simp at a0 a1 a2 a3 a4 a5
  clear aw
  have ew := HOu2.out
  have e0 := ew.cell 0
  have e1 := ew.cell 1
  have e2 := ew.cell 2
  have el := ew.lt
  have ef := fun i => ew.frozen i
  simp at e0 e1 e2
  clear ew
  have zw := HRu2.out
  have z0 := zw.cell 0
  have z1 := zw.cell 1
  have z2 := zw.cell 2
  have z3 := zw.cell 3
  have z4 := zw.cell 4
  have z5 := zw.cell 5
  have zl := zw.lt
  have zf := fun i => zw.frozen i
  simp at z0 z1 z2 z3 z4 z5
  clear zw
  go_wp2_with fail
  refine sees_end (by rfl) (by rfl) (show Blk _ (w.heap.size + 1 + 1) 42 #[.int .i64 top, (.slice B0 n0 d0'), (.slice B1 n1 d1'), (.slice B2 n2 d2'), (.slice A4 r.gr.length c4), (.slice A5 r.en.length c5)] from (((((((HRu2.out.far (p := ⟨w.heap.size, 3, none⟩) (by show w.heap.size + 1 + 1 ≠ w.heap.size; omega) _).set_ 0 _).set_ 1 _).set_ 2 _).set_ 3 _).set_ 4 _).set_ 5 _)) ?_
  refine HFIN.out _ B0 d0' n0 B1 d1' n1 B2 d2' n2 ?_ ?_ ?_ ?_
  · repeat (first | with_reducible exact Q0.out | refine IsL.far ?_ (fun g hg => by have := X0.out g hg; first | (show g ≠ w.heap.size; omega) | (show g ≠ w.heap.size + 1 + 1; omega)) _)
  · repeat (first | with_reducible exact Q1.out | refine IsL.far ?_ (fun g hg => by have := X1.out g hg; first | (show g ≠ w.heap.size; omega) | (show g ≠ w.heap.size + 1 + 1; omega)) _)
  · repeat (first | with_reducible exact Q2.out | refine IsL.far ?_ (fun g hg => by have := X2.out g hg; first | (show g ≠ w.heap.size; omega) | (show g ≠ w.heap.size + 1 + 1; omega)) _)
  · repeat (first | with_reducible exact Bu2.out | refine B_setCell ?_ (by first | (simp; done) | (simp; omega)) _ | refine B_drewN ?_ _ | refine B_drew ?_)
set_option maxRecDepth 100000 in
set_option maxHeartbeats 8000000 in
theorem see_4_en (w : World) (id fk : Int) (data text : ByteArray) (v1 v2 v3 v4 v5 : Value) (r : RW) (hf : Few r 1000) (h : RWV w v1 v2 v3 v4 v5 r) (ht : text.size ≤ 9999) (hr : rightV ⟨4, id, fk, data, text⟩ = true) (hen : decide (id ∈ r.en) = true) :
    Calls Try.prog 16 #[.agg #[.int .i64 r.top, v1, v2, v3, v4, v5], .agg #[.int .i64 (4), .int .i64 id, .int .i64 fk, .string data, .string text]] w (SeePost w (r, 5)) := by
  have HRT := Lib.hid (show ∀ W, Calls Try.prog 27 #[.agg #[.int .i64 (4), .int .i64 id, .int .i64 fk, .string data, .string text]] W fun e w' => e = .returned (.bool true) ∧ B W w' from fun W => by
    have := refright_any ⟨4, id, fk, data, text⟩ ht W
    rw [hr] at this
    exact this)
  have HEN := Lib.hid (fun W (hb : B w W) => has_v W v5 r.en id (by have := hf.l5; omega) (h.h5.below hb))
  have HTH := Lib.hid (fun W (hb : B w W) => there_any W r.top id v1 v2 v3 v4 v5 r hf (h.below hb))
  rw [hen] at HEN
  generalize thereR r id = qt at HTH
  obtain ⟨top, htop⟩ : ∃ top, r.top = top := ⟨_, rfl⟩
  have HH := Lib.hid h
  obtain ⟨⟨A1, c1, rfl, -⟩, ⟨A2, c2, rfl, -⟩, ⟨A3, c3, rfl, -⟩, ⟨A4, c4, rfl, -⟩, ⟨A5, c5, rfl, -⟩⟩ := h
  have HFIN := Lib.hid (show ∀ W, B w W → SeePost w (r, 5) (.returned (.tuple #[.agg #[.int .i64 top, (.slice A1 r.first.length c1), (.slice A2 r.idle.length c2), (.slice A3 r.op.length c3), (.slice A4 r.gr.length c4), (.slice A5 r.en.length c5)], .int .i64 5])) W from fun W hb => ⟨_, _, _, _, _, by rw [← htop], ⟨HH.out.h1.below hb, HH.out.h2.below hb, HH.out.h3.below hb, HH.out.h4.below hb, HH.out.h5.below hb⟩, hb⟩)
  try rw [htop] at HFIN
  rw [htop] at HTH ⊢
  clear htop hf hr ht
  have HB0 := Lib.hid (B_alloc (B_alloc (B_alloc (B_refl w) (.cells #[.int .i64 top, (.slice A1 r.first.length c1), (.slice A2 r.idle.length c2), (.slice A3 r.op.length c3), (.slice A4 r.gr.length c4), (.slice A5 r.en.length c5)] 42)) (.cells #[.int .i64 (4), .int .i64 id, .int .i64 fk, .string data, .string text] 36)) (.cells #[.int .i64 0, .slice none 0 0, .slice none 0 0, .slice none 0 0, .slice none 0 0, .slice none 0 0] 42))
  have HW0 := Lib.hid (Blk.alloc (Blk.alloc (Blk.new w 42 #[.int .i64 top, (.slice A1 r.first.length c1), (.slice A2 r.idle.length c2), (.slice A3 r.op.length c3), (.slice A4 r.gr.length c4), (.slice A5 r.en.length c5)]) (.cells #[.int .i64 (4), .int .i64 id, .int .i64 fk, .string data, .string text] 36)) (.cells #[.int .i64 0, .slice none 0 0, .slice none 0 0, .slice none 0 0, .slice none 0 0, .slice none 0 0] 42))
  have HO0 := Lib.hid (Blk.alloc (show Blk ((w.alloc (.cells #[.int .i64 top, (.slice A1 r.first.length c1), (.slice A2 r.idle.length c2), (.slice A3 r.op.length c3), (.slice A4 r.gr.length c4), (.slice A5 r.en.length c5)] 42)).alloc (.cells #[.int .i64 (4), .int .i64 id, .int .i64 fk, .string data, .string text] 36)) (w.heap.size + 1) 36 #[.int .i64 (4), .int .i64 id, .int .i64 fk, .string data, .string text] from heap_at_new _ (by simp)) (.cells #[.int .i64 0, .slice none 0 0, .slice none 0 0, .slice none 0 0, .slice none 0 0, .slice none 0 0] 42))
  have HR0 := Lib.hid (show Blk (((w.alloc (.cells #[.int .i64 top, (.slice A1 r.first.length c1), (.slice A2 r.idle.length c2), (.slice A3 r.op.length c3), (.slice A4 r.gr.length c4), (.slice A5 r.en.length c5)] 42)).alloc (.cells #[.int .i64 (4), .int .i64 id, .int .i64 fk, .string data, .string text] 36)).alloc (.cells #[.int .i64 0, .slice none 0 0, .slice none 0 0, .slice none 0 0, .slice none 0 0, .slice none 0 0] 42)) (w.heap.size + 1 + 1) 42 #[.int .i64 0, .slice none 0 0, .slice none 0 0, .slice none 0 0, .slice none 0 0, .slice none 0 0] from heap_at_new _ (by simp))
  go_enter Try.func16, Try.ntmps16
  go_wp2_with fail
  refine (HRT.out _).mono ?_
  rintro e w1 ⟨rfl, b1⟩
  have B1 := Lib.hid (show B w w1 from B_trans HB0.out b1)
  have HW1 := Lib.hid (HW0.out.b b1)
  have HO1 := Lib.hid (HO0.out.b b1)
  have HR1 := Lib.hid (HR0.out.b b1)
  have hs1 : w.heap.size + 1 + 1 < w1.heap.size := HR1.out.lt
  clear b1 HRT HB0 HW0 HO0 HR0
  have aw := HW1.out
  have a0 := aw.cell 0
  have a1 := aw.cell 1
  have a2 := aw.cell 2
  have a3 := aw.cell 3
  have a4 := aw.cell 4
  have a5 := aw.cell 5
  have al := aw.lt
  have af := fun i => aw.frozen i
  simp at a0 a1 a2 a3 a4 a5
  clear aw
  have ew := HO1.out
  have e0 := ew.cell 0
  have e1 := ew.cell 1
  have e2 := ew.cell 2
  have el := ew.lt
  have ef := fun i => ew.frozen i
  simp at e0 e1 e2
  clear ew
  have zw := HR1.out
  have z0 := zw.cell 0
  have z1 := zw.cell 1
  have z2 := zw.cell 2
  have z3 := zw.cell 3
  have z4 := zw.cell 4
  have z5 := zw.cell 5
  have zl := zw.lt
  have zf := fun i => zw.frozen i
  simp at z0 z1 z2 z3 z4 z5
  clear zw
  go_wp2_with fail
  refine (HEN.out _ (by repeat (first | with_reducible exact B1.out | refine B_setCell ?_ (by first | (simp; done) | (simp; omega)) _ | refine B_drewN ?_ _ | refine B_drew ?_))).mono ?_
  rintro e w2 ⟨rfl, rfl⟩
  go_wp2_with fail
  refine (HTH.out _ (by repeat (first | with_reducible exact B1.out | refine B_setCell ?_ (by first | (simp; done) | (simp; omega)) _ | refine B_drewN ?_ _ | refine B_drew ?_))).mono ?_
  rintro e w3 ⟨rfl, b3⟩
  have B3 := Lib.hid (show B w w3 from B_trans (by repeat (first | with_reducible exact B1.out | refine B_setCell ?_ (by first | (simp; done) | (simp; omega)) _ | refine B_drewN ?_ _ | refine B_drew ?_)) b3)
  have HW3 := Lib.hid (Blk.b (show Blk _ w.heap.size 42 #[.int .i64 top, (.slice A1 r.first.length c1), (.slice A2 r.idle.length c2), (.slice A3 r.op.length c3), (.slice A4 r.gr.length c4), (.slice A5 r.en.length c5)] by repeat (first | with_reducible exact HW1.out | refine Blk.drew ?_ | refine Blk.drewN ?_ _)) b3)
  have HO3 := Lib.hid (Blk.b (show Blk _ (w.heap.size + 1) 36 #[.int .i64 (4), .int .i64 id, .int .i64 fk, .string data, .string text] by repeat (first | with_reducible exact HO1.out | refine Blk.drew ?_ | refine Blk.drewN ?_ _)) b3)
  have HR3 := Lib.hid (Blk.b (show Blk _ (w.heap.size + 1 + 1) 42 #[.int .i64 0, .slice none 0 0, .slice none 0 0, .slice none 0 0, .slice none 0 0, .slice none 0 0] by repeat (first | with_reducible exact HR1.out | refine Blk.drew ?_ | refine Blk.drewN ?_ _)) b3)
  have hs3 : w.heap.size + 1 + 1 < w3.heap.size := HR3.out.lt
  clear a0 a1 a2 a3 a4 a5 al af
  clear e0 e1 e2 el ef
  clear z0 z1 z2 z3 z4 z5 zl zf
  clear b3 B1 HW1 HO1 HR1 hs1 HEN HTH
  have aw := HW3.out
  have a0 := aw.cell 0
  have a1 := aw.cell 1
  have a2 := aw.cell 2
  have a3 := aw.cell 3
  have a4 := aw.cell 4
  have a5 := aw.cell 5
  have al := aw.lt
  have af := fun i => aw.frozen i
  simp at a0 a1 a2 a3 a4 a5
  clear aw
  have ew := HO3.out
  have e0 := ew.cell 0
  have e1 := ew.cell 1
  have e2 := ew.cell 2
  have el := ew.lt
  have ef := fun i => ew.frozen i
  simp at e0 e1 e2
  clear ew
  have zw := HR3.out
  have z0 := zw.cell 0
  have z1 := zw.cell 1
  have z2 := zw.cell 2
  have z3 := zw.cell 3
  have z4 := zw.cell 4
  have z5 := zw.cell 5
  have zl := zw.lt
  have zf := fun i => zw.frozen i
  simp at z0 z1 z2 z3 z4 z5
  clear zw
  go_wp2_with fail
  refine sees_end (by rfl) (by rfl) (show Blk _ (w.heap.size + 1 + 1) 42 #[.int .i64 top, (.slice A1 r.first.length c1), (.slice A2 r.idle.length c2), (.slice A3 r.op.length c3), (.slice A4 r.gr.length c4), (.slice A5 r.en.length c5)] from ((((((HR3.out.set_ 0 _).set_ 1 _).set_ 2 _).set_ 3 _).set_ 4 _).set_ 5 _)) ?_
  refine HFIN.out _ ?_
  · repeat (first | with_reducible exact B3.out | refine B_setCell ?_ (by first | (simp; done) | (simp; omega)) _ | refine B_drewN ?_ _ | refine B_drew ?_)
set_option maxRecDepth 100000 in
set_option maxHeartbeats 8000000 in
theorem see_4_ok (w : World) (id fk : Int) (data text : ByteArray) (v1 v2 v3 v4 v5 : Value) (r : RW) (hf : Few r 1000) (h : RWV w v1 v2 v3 v4 v5 r) (ht : text.size ≤ 9999) (hr : rightV ⟨4, id, fk, data, text⟩ = true) (hen : decide (id ∈ r.en) = false) :
    Calls Try.prog 16 #[.agg #[.int .i64 r.top, v1, v2, v3, v4, v5], .agg #[.int .i64 (4), .int .i64 id, .int .i64 fk, .string data, .string text]] w (SeePost w (({ r with en := r.en ++ [id] } : RW), 0)) := by
  have HRT := Lib.hid (show ∀ W, Calls Try.prog 27 #[.agg #[.int .i64 (4), .int .i64 id, .int .i64 fk, .string data, .string text]] W fun e w' => e = .returned (.bool true) ∧ B W w' from fun W => by
    have := refright_any ⟨4, id, fk, data, text⟩ ht W
    rw [hr] at this
    exact this)
  have HEN := Lib.hid (fun W (hb : B w W) => has_v W v5 r.en id (by have := hf.l5; omega) (h.h5.below hb))
  have HTH := Lib.hid (fun W (hb : B w W) => there_any W r.top id v1 v2 v3 v4 v5 r hf (h.below hb))
  rw [hen] at HEN
  generalize thereR r id = qt at HTH
  have HL0 := Lib.hid (fun W (hb : B w W) => more_v W v5 r.en id (by have := hf.l5; omega) (h.h5.below hb))
  unfold ToL at HL0
  obtain ⟨top, htop⟩ : ∃ top, r.top = top := ⟨_, rfl⟩
  have HH := Lib.hid h
  obtain ⟨⟨A1, c1, rfl, -⟩, ⟨A2, c2, rfl, -⟩, ⟨A3, c3, rfl, -⟩, ⟨A4, c4, rfl, -⟩, ⟨A5, c5, rfl, -⟩⟩ := h
  have HFIN := Lib.hid (show ∀ W B0 d0' n0, IsL W (.slice B0 n0 d0') (r.en ++ [id]) → B w W → SeePost w (({ r with en := r.en ++ [id] } : RW), 0) (.returned (.tuple #[.agg #[.int .i64 top, (.slice A1 r.first.length c1), (.slice A2 r.idle.length c2), (.slice A3 r.op.length c3), (.slice A4 r.gr.length c4), (.slice B0 n0 d0')], .int .i64 0])) W from fun W B0 d0' n0 q0 hb => ⟨_, _, _, _, _, by rw [← htop], ⟨HH.out.h1.below hb, HH.out.h2.below hb, HH.out.h3.below hb, HH.out.h4.below hb, q0⟩, hb⟩)
  try rw [htop] at HFIN
  rw [htop] at HTH ⊢
  clear htop hf hr ht
  have HB0 := Lib.hid (B_alloc (B_alloc (B_alloc (B_refl w) (.cells #[.int .i64 top, (.slice A1 r.first.length c1), (.slice A2 r.idle.length c2), (.slice A3 r.op.length c3), (.slice A4 r.gr.length c4), (.slice A5 r.en.length c5)] 42)) (.cells #[.int .i64 (4), .int .i64 id, .int .i64 fk, .string data, .string text] 36)) (.cells #[.int .i64 0, .slice none 0 0, .slice none 0 0, .slice none 0 0, .slice none 0 0, .slice none 0 0] 42))
  have HW0 := Lib.hid (Blk.alloc (Blk.alloc (Blk.new w 42 #[.int .i64 top, (.slice A1 r.first.length c1), (.slice A2 r.idle.length c2), (.slice A3 r.op.length c3), (.slice A4 r.gr.length c4), (.slice A5 r.en.length c5)]) (.cells #[.int .i64 (4), .int .i64 id, .int .i64 fk, .string data, .string text] 36)) (.cells #[.int .i64 0, .slice none 0 0, .slice none 0 0, .slice none 0 0, .slice none 0 0, .slice none 0 0] 42))
  have HO0 := Lib.hid (Blk.alloc (show Blk ((w.alloc (.cells #[.int .i64 top, (.slice A1 r.first.length c1), (.slice A2 r.idle.length c2), (.slice A3 r.op.length c3), (.slice A4 r.gr.length c4), (.slice A5 r.en.length c5)] 42)).alloc (.cells #[.int .i64 (4), .int .i64 id, .int .i64 fk, .string data, .string text] 36)) (w.heap.size + 1) 36 #[.int .i64 (4), .int .i64 id, .int .i64 fk, .string data, .string text] from heap_at_new _ (by simp)) (.cells #[.int .i64 0, .slice none 0 0, .slice none 0 0, .slice none 0 0, .slice none 0 0, .slice none 0 0] 42))
  have HR0 := Lib.hid (show Blk (((w.alloc (.cells #[.int .i64 top, (.slice A1 r.first.length c1), (.slice A2 r.idle.length c2), (.slice A3 r.op.length c3), (.slice A4 r.gr.length c4), (.slice A5 r.en.length c5)] 42)).alloc (.cells #[.int .i64 (4), .int .i64 id, .int .i64 fk, .string data, .string text] 36)).alloc (.cells #[.int .i64 0, .slice none 0 0, .slice none 0 0, .slice none 0 0, .slice none 0 0, .slice none 0 0] 42)) (w.heap.size + 1 + 1) 42 #[.int .i64 0, .slice none 0 0, .slice none 0 0, .slice none 0 0, .slice none 0 0, .slice none 0 0] from heap_at_new _ (by simp))
  go_enter Try.func16, Try.ntmps16
  go_wp2_with fail
  refine (HRT.out _).mono ?_
  rintro e w1 ⟨rfl, b1⟩
  have B1 := Lib.hid (show B w w1 from B_trans HB0.out b1)
  have HW1 := Lib.hid (HW0.out.b b1)
  have HO1 := Lib.hid (HO0.out.b b1)
  have HR1 := Lib.hid (HR0.out.b b1)
  have hs1 : w.heap.size + 1 + 1 < w1.heap.size := HR1.out.lt
  clear b1 HRT HB0 HW0 HO0 HR0
  have aw := HW1.out
  have a0 := aw.cell 0
  have a1 := aw.cell 1
  have a2 := aw.cell 2
  have a3 := aw.cell 3
  have a4 := aw.cell 4
  have a5 := aw.cell 5
  have al := aw.lt
  have af := fun i => aw.frozen i
  simp at a0 a1 a2 a3 a4 a5
  clear aw
  have ew := HO1.out
  have e0 := ew.cell 0
  have e1 := ew.cell 1
  have e2 := ew.cell 2
  have el := ew.lt
  have ef := fun i => ew.frozen i
  simp at e0 e1 e2
  clear ew
  have zw := HR1.out
  have z0 := zw.cell 0
  have z1 := zw.cell 1
  have z2 := zw.cell 2
  have z3 := zw.cell 3
  have z4 := zw.cell 4
  have z5 := zw.cell 5
  have zl := zw.lt
  have zf := fun i => zw.frozen i
  simp at z0 z1 z2 z3 z4 z5
  clear zw
  go_wp2_with fail
  refine (HEN.out _ (by repeat (first | with_reducible exact B1.out | refine B_setCell ?_ (by first | (simp; done) | (simp; omega)) _ | refine B_drewN ?_ _ | refine B_drew ?_))).mono ?_
  rintro e w2 ⟨rfl, rfl⟩
  go_wp2_with fail
  refine (HTH.out _ (by repeat (first | with_reducible exact B1.out | refine B_setCell ?_ (by first | (simp; done) | (simp; omega)) _ | refine B_drewN ?_ _ | refine B_drew ?_))).mono ?_
  rintro e w3 ⟨rfl, b3⟩
  have B3 := Lib.hid (show B w w3 from B_trans (by repeat (first | with_reducible exact B1.out | refine B_setCell ?_ (by first | (simp; done) | (simp; omega)) _ | refine B_drewN ?_ _ | refine B_drew ?_)) b3)
  have HW3 := Lib.hid (Blk.b (show Blk _ w.heap.size 42 #[.int .i64 top, (.slice A1 r.first.length c1), (.slice A2 r.idle.length c2), (.slice A3 r.op.length c3), (.slice A4 r.gr.length c4), (.slice A5 r.en.length c5)] by repeat (first | with_reducible exact HW1.out | refine Blk.drew ?_ | refine Blk.drewN ?_ _)) b3)
  have HO3 := Lib.hid (Blk.b (show Blk _ (w.heap.size + 1) 36 #[.int .i64 (4), .int .i64 id, .int .i64 fk, .string data, .string text] by repeat (first | with_reducible exact HO1.out | refine Blk.drew ?_ | refine Blk.drewN ?_ _)) b3)
  have HR3 := Lib.hid (Blk.b (show Blk _ (w.heap.size + 1 + 1) 42 #[.int .i64 0, .slice none 0 0, .slice none 0 0, .slice none 0 0, .slice none 0 0, .slice none 0 0] by repeat (first | with_reducible exact HR1.out | refine Blk.drew ?_ | refine Blk.drewN ?_ _)) b3)
  have hs3 : w.heap.size + 1 + 1 < w3.heap.size := HR3.out.lt
  clear a0 a1 a2 a3 a4 a5 al af
  clear e0 e1 e2 el ef
  clear z0 z1 z2 z3 z4 z5 zl zf
  clear b3 B1 HW1 HO1 HR1 hs1 HEN HTH
  have aw := HW3.out
  have a0 := aw.cell 0
  have a1 := aw.cell 1
  have a2 := aw.cell 2
  have a3 := aw.cell 3
  have a4 := aw.cell 4
  have a5 := aw.cell 5
  have al := aw.lt
  have af := fun i => aw.frozen i
  simp at a0 a1 a2 a3 a4 a5
  clear aw
  have ew := HO3.out
  have e0 := ew.cell 0
  have e1 := ew.cell 1
  have e2 := ew.cell 2
  have el := ew.lt
  have ef := fun i => ew.frozen i
  simp at e0 e1 e2
  clear ew
  have zw := HR3.out
  have z0 := zw.cell 0
  have z1 := zw.cell 1
  have z2 := zw.cell 2
  have z3 := zw.cell 3
  have z4 := zw.cell 4
  have z5 := zw.cell 5
  have zl := zw.lt
  have zf := fun i => zw.frozen i
  simp at z0 z1 z2 z3 z4 z5
  clear zw
  go_wp2_with fail
  refine (HL0.out _ (by repeat (first | with_reducible exact B3.out | refine B_setCell ?_ (by first | (simp; done) | (simp; omega)) _ | refine B_drewN ?_ _ | refine B_drew ?_))).mono ?_
  rintro e u0 ⟨B0, d0', n0, rfl, q0', x0, b0'⟩
  have Bu0 := Lib.hid (show B w u0 from B_trans (by repeat (first | with_reducible exact B3.out | refine B_setCell ?_ (by first | (simp; done) | (simp; omega)) _ | refine B_drewN ?_ _ | refine B_drew ?_)) b0')
  have Q0 := Lib.hid q0'
  have X0 := Lib.hid (show ∀ g, Value.ownBlock (.slice B0 n0 d0') = some g → w.heap.size + 3 ≤ g from fun g hg => by have := x0 g hg; first | omega | (simp at this; omega))
  have HWu0 := Lib.hid (Blk.b (show Blk _ w.heap.size 42 #[.int .i64 top, (.slice A1 r.first.length c1), (.slice A2 r.idle.length c2), (.slice A3 r.op.length c3), (.slice A4 r.gr.length c4), (.slice A5 r.en.length c5)] from HW3.out) b0')
  have HOu0 := Lib.hid (Blk.b (show Blk _ (w.heap.size + 1) 36 #[.int .i64 (4), .int .i64 id, .int .i64 fk, .string data, .string text] from HO3.out) b0')
  have HRu0 := Lib.hid (Blk.b (show Blk _ (w.heap.size + 1 + 1) 42 #[.int .i64 0, .slice none 0 0, .slice none 0 0, .slice none 0 0, .slice none 0 0, .slice none 0 0] from HR3.out) b0')
  have hsu0 : w.heap.size + 1 + 1 < u0.heap.size := HRu0.out.lt
  clear a0 a1 a2 a3 a4 a5 al af
  clear e0 e1 e2 el ef
  clear z0 z1 z2 z3 z4 z5 zl zf
  clear b0' q0' x0 HL0 B3 HW3 HO3 HR3 hs3
  have aw := HWu0.out
  have a0 := aw.cell 0
  have a1 := aw.cell 1
  have a2 := aw.cell 2
  have a3 := aw.cell 3
  have a4 := aw.cell 4
  have a5 := aw.cell 5
  have al := aw.lt
  have af := fun i => aw.frozen i
  simp at a0 a1 a2 a3 a4 a5
  clear aw
  have ew := HOu0.out
  have e0 := ew.cell 0
  have e1 := ew.cell 1
  have e2 := ew.cell 2
  have el := ew.lt
  have ef := fun i => ew.frozen i
  simp at e0 e1 e2
  clear ew
  have zw := HRu0.out
  have z0 := zw.cell 0
  have z1 := zw.cell 1
  have z2 := zw.cell 2
  have z3 := zw.cell 3
  have z4 := zw.cell 4
  have z5 := zw.cell 5
  have zl := zw.lt
  have zf := fun i => zw.frozen i
  simp at z0 z1 z2 z3 z4 z5
  clear zw
  go_wp2_with fail
  refine sees_end (by rfl) (by rfl) (show Blk _ (w.heap.size + 1 + 1) 42 #[.int .i64 top, (.slice A1 r.first.length c1), (.slice A2 r.idle.length c2), (.slice A3 r.op.length c3), (.slice A4 r.gr.length c4), (.slice B0 n0 d0')] from (((((((HRu0.out.far (p := ⟨w.heap.size, 5, none⟩) (by show w.heap.size + 1 + 1 ≠ w.heap.size; omega) _).set_ 0 _).set_ 1 _).set_ 2 _).set_ 3 _).set_ 4 _).set_ 5 _)) ?_
  refine HFIN.out _ B0 d0' n0 ?_ ?_
  · repeat (first | with_reducible exact Q0.out | refine IsL.far ?_ (fun g hg => by have := X0.out g hg; first | (show g ≠ w.heap.size; omega) | (show g ≠ w.heap.size + 1 + 1; omega)) _)
  · repeat (first | with_reducible exact Bu0.out | refine B_setCell ?_ (by first | (simp; done) | (simp; omega)) _ | refine B_drewN ?_ _ | refine B_drew ?_)
set_option maxRecDepth 100000 in
set_option maxHeartbeats 8000000 in
theorem see_k (w : World) (k id fk : Int) (data text : ByteArray) (v1 v2 v3 v4 v5 : Value) (r : RW) (hf : Few r 1000) (h : RWV w v1 v2 v3 v4 v5 r) (ht : text.size ≤ 9999) (hr : rightV ⟨k, id, fk, data, text⟩ = true) (k0 : (k == 0) = false) (k1 : (k == 1) = false) (k2 : (k == 2) = false) (k3 : (k == 3) = false) (k4 : (k == 4) = false) :
    Calls Try.prog 16 #[.agg #[.int .i64 r.top, v1, v2, v3, v4, v5], .agg #[.int .i64 (k), .int .i64 id, .int .i64 fk, .string data, .string text]] w (SeePost w (r, 0)) := by
  have HRT := Lib.hid (show ∀ W, Calls Try.prog 27 #[.agg #[.int .i64 (k), .int .i64 id, .int .i64 fk, .string data, .string text]] W fun e w' => e = .returned (.bool true) ∧ B W w' from fun W => by
    have := refright_any ⟨k, id, fk, data, text⟩ ht W
    rw [hr] at this
    exact this)
  have HEN := Lib.hid (fun W (hb : B w W) => has_v W v5 r.en id (by have := hf.l5; omega) (h.h5.below hb))
  have HTH := Lib.hid (fun W (hb : B w W) => there_any W r.top id v1 v2 v3 v4 v5 r hf (h.below hb))
  generalize decide (id ∈ r.en) = qe at HEN
  generalize thereR r id = qt at HTH
  obtain ⟨top, htop⟩ : ∃ top, r.top = top := ⟨_, rfl⟩
  have HH := Lib.hid h
  obtain ⟨⟨A1, c1, rfl, -⟩, ⟨A2, c2, rfl, -⟩, ⟨A3, c3, rfl, -⟩, ⟨A4, c4, rfl, -⟩, ⟨A5, c5, rfl, -⟩⟩ := h
  have HFIN := Lib.hid (show ∀ W, B w W → SeePost w (r, 0) (.returned (.tuple #[.agg #[.int .i64 top, (.slice A1 r.first.length c1), (.slice A2 r.idle.length c2), (.slice A3 r.op.length c3), (.slice A4 r.gr.length c4), (.slice A5 r.en.length c5)], .int .i64 0])) W from fun W hb => ⟨_, _, _, _, _, by rw [← htop], ⟨HH.out.h1.below hb, HH.out.h2.below hb, HH.out.h3.below hb, HH.out.h4.below hb, HH.out.h5.below hb⟩, hb⟩)
  try rw [htop] at HFIN
  rw [htop] at HTH ⊢
  clear htop hf hr ht
  have HB0 := Lib.hid (B_alloc (B_alloc (B_alloc (B_refl w) (.cells #[.int .i64 top, (.slice A1 r.first.length c1), (.slice A2 r.idle.length c2), (.slice A3 r.op.length c3), (.slice A4 r.gr.length c4), (.slice A5 r.en.length c5)] 42)) (.cells #[.int .i64 (k), .int .i64 id, .int .i64 fk, .string data, .string text] 36)) (.cells #[.int .i64 0, .slice none 0 0, .slice none 0 0, .slice none 0 0, .slice none 0 0, .slice none 0 0] 42))
  have HW0 := Lib.hid (Blk.alloc (Blk.alloc (Blk.new w 42 #[.int .i64 top, (.slice A1 r.first.length c1), (.slice A2 r.idle.length c2), (.slice A3 r.op.length c3), (.slice A4 r.gr.length c4), (.slice A5 r.en.length c5)]) (.cells #[.int .i64 (k), .int .i64 id, .int .i64 fk, .string data, .string text] 36)) (.cells #[.int .i64 0, .slice none 0 0, .slice none 0 0, .slice none 0 0, .slice none 0 0, .slice none 0 0] 42))
  have HO0 := Lib.hid (Blk.alloc (show Blk ((w.alloc (.cells #[.int .i64 top, (.slice A1 r.first.length c1), (.slice A2 r.idle.length c2), (.slice A3 r.op.length c3), (.slice A4 r.gr.length c4), (.slice A5 r.en.length c5)] 42)).alloc (.cells #[.int .i64 (k), .int .i64 id, .int .i64 fk, .string data, .string text] 36)) (w.heap.size + 1) 36 #[.int .i64 (k), .int .i64 id, .int .i64 fk, .string data, .string text] from heap_at_new _ (by simp)) (.cells #[.int .i64 0, .slice none 0 0, .slice none 0 0, .slice none 0 0, .slice none 0 0, .slice none 0 0] 42))
  have HR0 := Lib.hid (show Blk (((w.alloc (.cells #[.int .i64 top, (.slice A1 r.first.length c1), (.slice A2 r.idle.length c2), (.slice A3 r.op.length c3), (.slice A4 r.gr.length c4), (.slice A5 r.en.length c5)] 42)).alloc (.cells #[.int .i64 (k), .int .i64 id, .int .i64 fk, .string data, .string text] 36)).alloc (.cells #[.int .i64 0, .slice none 0 0, .slice none 0 0, .slice none 0 0, .slice none 0 0, .slice none 0 0] 42)) (w.heap.size + 1 + 1) 42 #[.int .i64 0, .slice none 0 0, .slice none 0 0, .slice none 0 0, .slice none 0 0, .slice none 0 0] from heap_at_new _ (by simp))
  go_enter Try.func16, Try.ntmps16
  go_wp2_with fail
  refine (HRT.out _).mono ?_
  rintro e w1 ⟨rfl, b1⟩
  have B1 := Lib.hid (show B w w1 from B_trans HB0.out b1)
  have HW1 := Lib.hid (HW0.out.b b1)
  have HO1 := Lib.hid (HO0.out.b b1)
  have HR1 := Lib.hid (HR0.out.b b1)
  have hs1 : w.heap.size + 1 + 1 < w1.heap.size := HR1.out.lt
  clear b1 HRT HB0 HW0 HO0 HR0
  have aw := HW1.out
  have a0 := aw.cell 0
  have a1 := aw.cell 1
  have a2 := aw.cell 2
  have a3 := aw.cell 3
  have a4 := aw.cell 4
  have a5 := aw.cell 5
  have al := aw.lt
  have af := fun i => aw.frozen i
  simp at a0 a1 a2 a3 a4 a5
  clear aw
  have ew := HO1.out
  have e0 := ew.cell 0
  have e1 := ew.cell 1
  have e2 := ew.cell 2
  have el := ew.lt
  have ef := fun i => ew.frozen i
  simp at e0 e1 e2
  clear ew
  have zw := HR1.out
  have z0 := zw.cell 0
  have z1 := zw.cell 1
  have z2 := zw.cell 2
  have z3 := zw.cell 3
  have z4 := zw.cell 4
  have z5 := zw.cell 5
  have zl := zw.lt
  have zf := fun i => zw.frozen i
  simp at z0 z1 z2 z3 z4 z5
  clear zw
  go_wp2_with fail
  refine (HEN.out _ (by repeat (first | with_reducible exact B1.out | refine B_setCell ?_ (by first | (simp; done) | (simp; omega)) _ | refine B_drewN ?_ _ | refine B_drew ?_))).mono ?_
  rintro e w2 ⟨rfl, rfl⟩
  go_wp2_with fail
  refine (HTH.out _ (by repeat (first | with_reducible exact B1.out | refine B_setCell ?_ (by first | (simp; done) | (simp; omega)) _ | refine B_drewN ?_ _ | refine B_drew ?_))).mono ?_
  rintro e w3 ⟨rfl, b3⟩
  have B3 := Lib.hid (show B w w3 from B_trans (by repeat (first | with_reducible exact B1.out | refine B_setCell ?_ (by first | (simp; done) | (simp; omega)) _ | refine B_drewN ?_ _ | refine B_drew ?_)) b3)
  have HW3 := Lib.hid (Blk.b (show Blk _ w.heap.size 42 #[.int .i64 top, (.slice A1 r.first.length c1), (.slice A2 r.idle.length c2), (.slice A3 r.op.length c3), (.slice A4 r.gr.length c4), (.slice A5 r.en.length c5)] by repeat (first | with_reducible exact HW1.out | refine Blk.drew ?_ | refine Blk.drewN ?_ _)) b3)
  have HO3 := Lib.hid (Blk.b (show Blk _ (w.heap.size + 1) 36 #[.int .i64 (k), .int .i64 id, .int .i64 fk, .string data, .string text] by repeat (first | with_reducible exact HO1.out | refine Blk.drew ?_ | refine Blk.drewN ?_ _)) b3)
  have HR3 := Lib.hid (Blk.b (show Blk _ (w.heap.size + 1 + 1) 42 #[.int .i64 0, .slice none 0 0, .slice none 0 0, .slice none 0 0, .slice none 0 0, .slice none 0 0] by repeat (first | with_reducible exact HR1.out | refine Blk.drew ?_ | refine Blk.drewN ?_ _)) b3)
  have hs3 : w.heap.size + 1 + 1 < w3.heap.size := HR3.out.lt
  clear a0 a1 a2 a3 a4 a5 al af
  clear e0 e1 e2 el ef
  clear z0 z1 z2 z3 z4 z5 zl zf
  clear b3 B1 HW1 HO1 HR1 hs1 HEN HTH
  have aw := HW3.out
  have a0 := aw.cell 0
  have a1 := aw.cell 1
  have a2 := aw.cell 2
  have a3 := aw.cell 3
  have a4 := aw.cell 4
  have a5 := aw.cell 5
  have al := aw.lt
  have af := fun i => aw.frozen i
  simp at a0 a1 a2 a3 a4 a5
  clear aw
  have ew := HO3.out
  have e0 := ew.cell 0
  have e1 := ew.cell 1
  have e2 := ew.cell 2
  have el := ew.lt
  have ef := fun i => ew.frozen i
  simp at e0 e1 e2
  clear ew
  have zw := HR3.out
  have z0 := zw.cell 0
  have z1 := zw.cell 1
  have z2 := zw.cell 2
  have z3 := zw.cell 3
  have z4 := zw.cell 4
  have z5 := zw.cell 5
  have zl := zw.lt
  have zf := fun i => zw.frozen i
  simp at z0 z1 z2 z3 z4 z5
  clear zw
  go_wp2_with fail
  refine sees_end (by rfl) (by rfl) (show Blk _ (w.heap.size + 1 + 1) 42 #[.int .i64 top, (.slice A1 r.first.length c1), (.slice A2 r.idle.length c2), (.slice A3 r.op.length c3), (.slice A4 r.gr.length c4), (.slice A5 r.en.length c5)] from ((((((HR3.out.set_ 0 _).set_ 1 _).set_ 2 _).set_ 3 _).set_ 4 _).set_ 5 _)) ?_
  refine HFIN.out _ ?_
  · repeat (first | with_reducible exact B3.out | refine B_setCell ?_ (by first | (simp; done) | (simp; omega)) _ | refine B_drewN ?_ _ | refine B_drew ?_)
end Go.Proofs.Ytghjhcobmbobcaa.Wt
namespace Go.Proofs.Ytghjhcobmbobcaa.Wt
open Go.RowKit Go.Proofs.Ytghjhcobmbobcaa
theorem refsee_any (w : World) (o : OutV) (v1 v2 v3 v4 v5 : Value) (r : RW) (hf : Few r 1000) (ha : Apart r o.id) (h : RWV w v1 v2 v3 v4 v5 r) (ht : o.text.size ≤ 9999) :
    Calls Try.prog 16 #[.agg #[.int .i64 r.top, v1, v2, v3, v4, v5], outArg o] w (SeePost w (seeR (rightV o) r o)) := by
  obtain ⟨k, id, fk, data, text⟩ := o
  have bt : ∀ {p : Prop} [Decidable p], p → decide p = true := fun h => decide_eq_true h
  have bf : ∀ {p : Prop} [Decidable p], ¬ p → decide p = false := fun h => decide_eq_false h
  have kt : ∀ {a n : Int}, a = n → (a == n) = true := fun h => beq_iff_eq.2 h
  have kf : ∀ {a n : Int}, a ≠ n → (a == n) = false := fun h => beq_eq_false_iff_ne.2 h
  have nt : ∀ {a n : Int}, a ≠ n → (a != n) = true := fun h => bne_iff_ne.2 h
  have nf : ∀ {a n : Int}, a = n → (a != n) = false := fun h => by rw [h]; exact bne_self_eq_false _
  unfold outArg seeR
  dsimp only at ha ht ⊢
  cases hr : rightV ⟨k, id, fk, data, text⟩ with
  | false => rw [if_pos rfl]; exact see_no w k id fk data text v1 v2 v3 v4 v5 r hf h ht hr
  | true =>
    rw [if_neg (by simp)]
    by_cases k0 : k = 0
    · subst k0
      rw [if_pos rfl]
      unfold frontR
      by_cases he : id ∈ r.en
      · rw [if_pos he]; exact see_0_en w id fk data text v1 v2 v3 v4 v5 r hf h ht hr (bt he)
      rw [if_neg he]
      by_cases h1 : fk = 1
      · rw [if_neg (fun x => x.1 h1)]
        by_cases hg : id ∈ r.gr
        · rw [if_pos ⟨h1, hg⟩]; exact see_0_there w id fk data text v1 v2 v3 v4 v5 r hf h ht hr (bf he) (bt hg) (nf h1) (kt h1)
        · rw [if_neg (fun x => hg x.2), if_neg (fun x => by have := x.1; omega), if_pos h1]
          exact see_0_hello w id fk data text v1 v2 v3 v4 v5 r hf h ht hr (bf he) (bf hg) (nf h1) (kt h1) (kf (by omega))
      · by_cases h6 : fk = 6
        · rw [if_neg (fun x => x.2.1 h6), if_neg (fun x => h1 x.1)]
          by_cases hg : id ∈ r.gr
          · rw [if_neg (fun x => x.2 hg), if_neg h1]
            exact see_0_six w id fk data text v1 v2 v3 v4 v5 r hf h ht hr (bf he) (bt hg) (nt h1) (kf h1) (nf h6) (kt h6)
          · rw [if_pos ⟨h6, hg⟩]
            exact see_0_state w id fk data text v1 v2 v3 v4 v5 r hf h ht hr (bf he) (bf hg) (nt h1) (kf h1) (nf h6) (kt h6)
        · by_cases h7 : fk = 7
          · rw [if_neg (fun x => x.2.2 h7), if_neg (fun x => h1 x.1), if_neg (fun x => h6 x.1), if_neg h1]
            exact see_0_seven w id fk data text v1 v2 v3 v4 v5 r hf h ht hr (bf he) (nt h1) (kf h1) (nt h6) (kf h6) (nf h7)
          · rw [if_pos ⟨h1, h6, h7⟩]
            exact see_0_kind w id fk data text v1 v2 v3 v4 v5 r hf h ht hr (bf he) (nt h1) (nt h6) (nt h7)
    rw [if_neg k0]
    by_cases k1 : k = 1
    · subst k1
      rw [if_pos rfl]
      cases hth : thereR r id with
      | false => rw [if_pos rfl]; exact see_1_none w id fk data text v1 v2 v3 v4 v5 r hf h ht hr hth
      | true => rw [if_neg (by simp)]; exact see_1_back w id fk data text v1 v2 v3 v4 v5 r hf ha h ht hr hth
    rw [if_neg k1]
    by_cases k2 : k = 2
    · subst k2
      rw [if_pos rfl]
      by_cases hl : id ≤ r.top
      · rw [if_pos hl]; exact see_2_low w id fk data text v1 v2 v3 v4 v5 r hf h ht hr (bt hl)
      · rw [if_neg hl]; exact see_2_high w id fk data text v1 v2 v3 v4 v5 r hf h ht hr (bf hl)
    rw [if_neg k2]
    by_cases k3 : k = 3
    · subst k3
      rw [if_pos rfl]
      cases hth : thereR r id with
      | false => rw [if_pos rfl]; exact see_3_none w id fk data text v1 v2 v3 v4 v5 r hf h ht hr hth
      | true => rw [if_neg (by simp)]; exact see_3_yes w id fk data text v1 v2 v3 v4 v5 r hf h ht hr hth
    rw [if_neg k3]
    by_cases k4 : k = 4
    · subst k4
      rw [if_pos rfl]
      by_cases he : id ∈ r.en
      · rw [if_pos he]; exact see_4_en w id fk data text v1 v2 v3 v4 v5 r hf h ht hr (bt he)
      · rw [if_neg he]; exact see_4_ok w id fk data text v1 v2 v3 v4 v5 r hf h ht hr (bf he)
    rw [if_neg k4]
    exact see_k w k id fk data text v1 v2 v3 v4 v5 r hf h ht hr (kf k0) (kf k1) (kf k2) (kf k3) (kf k4)
/-- how the lists grow -/
theorem Few.see {r : RW} {n : Nat} (h : Few r n) (m : Bool) (o : OutV) : Few (seeR m r o).1 (n + 1) := by
  have hm : ∀ (l : List Int) (i : Int), l.length ≤ n → (l ++ [i]).length ≤ n + 1 := fun l i h => by rw [List.length_append]; simp; omega
  have hl : ∀ (l : List Int) (i : Int), l.length ≤ n → (less l i).length ≤ n + 1 := fun l i h => Nat.le_succ_of_le (Nat.le_trans (List.length_filter_le _ _) h)
  have h1 := h.l1; have h2 := h.l2; have h3 := h.l3; have h4 := h.l4; have h5 := h.l5
  have w1 : r.first.length ≤ n + 1 := by omega
  have w2 : r.idle.length ≤ n + 1 := by omega
  have w3 : r.op.length ≤ n + 1 := by omega
  have w4 : r.gr.length ≤ n + 1 := by omega
  have w5 : r.en.length ≤ n + 1 := by omega
  have hs : Few r (n + 1) := ⟨w1, w2, w3, w4, w5⟩
  unfold seeR
  split
  · exact hs
  · split
    · unfold frontR
      repeat' split
      all_goals first | exact hs | exact ⟨w1, w2, w3, hm _ _ h4, w5⟩
    · split
      · split
        · exact hs
        · unfold backR
          repeat' split
          all_goals first | exact hs | exact ⟨hl _ _ h1, hm _ _ h2, w3, w4, w5⟩ | exact ⟨w1, hl _ _ h2, hm _ _ h3, w4, w5⟩ | exact ⟨w1, hm _ _ h2, hl _ _ h3, w4, w5⟩
      · split
        · split
          · exact hs
          · exact ⟨hm _ _ h1, w2, w3, w4, w5⟩
        · split
          · split
            · exact hs
            · exact ⟨hl _ _ h1, hl _ _ h2, hl _ _ h3, w4, w5⟩
          · split
            · split
              · exact hs
              · exact ⟨w1, w2, w3, w4, hm _ _ h5⟩
            · exact hs
theorem Knows.apart {s : St} {r : RW} (h : Knows s r) (i : Int) : Apart r i := by
  refine ⟨fun a => ⟨fun b => ?_, fun b => ?_⟩, fun a b => ?_⟩
  · have := (h.first i).1 a; rw [(h.idle i).1 b] at this; cases this
  · have := (h.first i).1 a; rw [(h.op i).1 b] at this; cases this
  · have := (h.idle i).1 a; rw [(h.op i).1 b] at this; cases this
end Go.Proofs.Ytghjhcobmbobcaa.Wt
