/- What a watch does, plainly: outputs, what is known, what each output turns, the first one that is refused. -/
import Derived.Test.YtghjhcobmbobcaaMap
namespace Go.Proofs.Ytghjhcobmbobcaa.Wt
open Go.Proofs.Ytghjhcobmbobcaa.Mp

/-- An output: its kind, its id, its frame's kind and data, its text. -/
structure OutV where
  k : Int
  id : Int
  fk : Int
  data : ByteArray
  text : ByteArray
/-- What is known: the greatest connection; what comes next to each; who was greeted, who has ended. -/
structure St where
  top : Int
  nx : Int → Fin 4
  cl : Int → Bool × Bool
def st0 : St := ⟨0, fun _ => 0, fun _ => (false, false)⟩
def frontV (s : St) (id fk : Int) : St × Int :=
  if (s.cl id).2 then (s, 5) else if fk ≠ 1 ∧ fk ≠ 6 ∧ fk ≠ 7 then (s, 4) else if fk = 1 ∧ (s.cl id).1 = true then (s, 6) else if fk = 6 ∧ (s.cl id).1 = false then (s, 8)
  else ({ s with cl := upd s.cl id ((s.cl id).1 || decide (fk = 1), (s.cl id).2) }, 0)
def backV (s : St) (id fk : Int) : St × Int :=
  if s.nx id = 0 then (s, 5) else if (s.nx id = 1 ∧ fk = 1) ∨ (s.nx id = 3 ∧ (fk = 4 ∨ fk = 5)) then ({ s with nx := upd s.nx id 2 }, 0)
  else if (s.nx id = 2 ∧ fk = 2) ∨ (s.nx id = 3 ∧ fk = 3) then ({ s with nx := upd s.nx id 3 }, 0) else (s, 8)
/-- An output seen; r: may it be? -/
def seeV (r : Bool) (s : St) (o : OutV) : St × Int :=
  if r = false then (s, 1) else if o.k = 0 then frontV s o.id o.fk else if o.k = 1 then backV s o.id o.fk
  else if o.k = 2 then (if o.id ≤ s.top then (s, 6) else ({ s with top := o.id, nx := upd s.nx o.id 1 }, 0))
  else if o.k = 3 then (if s.nx o.id = 0 then (s, 5) else ({ s with nx := upd s.nx o.id 0 }, 0))
  else if o.k = 4 then (if (s.cl o.id).2 then (s, 5) else ({ s with cl := upd s.cl o.id ((s.cl o.id).1, true) }, 0)) else (s, 0)
/-- The first one that is refused, from place i on. -/
def auditFrom (R : OutV → Bool) : Nat → St → List OutV → Int × Int
  | _, _, [] => (-1, 0)
  | i, s, o :: r => if (seeV (R o) s o).2 = 0 then auditFrom R (i + 1) (seeV (R o) s o).1 r else (i, (seeV (R o) s o).2)
theorem audit_zero (R : OutV → Bool) : ∀ (l : List OutV) (i : Nat) (s : St), (auditFrom R i s l).2 = 0 → (auditFrom R i s l).1 = -1
  | [], _, _, _ => rfl
  | o :: r, i, s, h => by
    unfold auditFrom at h ⊢
    by_cases hz : (seeV (R o) s o).2 = 0
    · rw [if_pos hz] at h ⊢; exact audit_zero R r _ _ h
    · rw [if_neg hz] at h; exact absurd h hz
theorem audit_in (R : OutV → Bool) : ∀ (l : List OutV) (i : Nat) (s : St), (auditFrom R i s l).2 ≠ 0 → (i : Int) ≤ (auditFrom R i s l).1 ∧ (auditFrom R i s l).1 < i + l.length
  | [], _, _, h => absurd rfl h
  | o :: r, i, s, h => by
    unfold auditFrom at h ⊢
    by_cases hz : (seeV (R o) s o).2 = 0
    · rw [if_pos hz] at h ⊢
      have := audit_in R r (i + 1) _ h
      simp only [List.length_cons]
      omega
    · rw [if_neg hz]
      simp only [List.length_cons]
      omega
/-- Of a beginning of the list. -/
theorem audit_take (R : OutV → Bool) : ∀ (l : List OutV) (k i : Nat) (s : St),
    auditFrom R i s (l.take k) = if (auditFrom R i s l).2 ≠ 0 ∧ (auditFrom R i s l).1 < i + k then auditFrom R i s l else (-1, 0)
  | [], k, i, s => by rw [List.take_nil]; rfl
  | o :: r, 0, i, s => by
    rw [List.take_zero]
    by_cases h : (auditFrom R i s (o :: r)).2 = 0
    · rw [if_neg (fun e => e.1 h)]; rfl
    · have := audit_in R (o :: r) i s h
      rw [if_neg (by omega)]; rfl
  | o :: r, k + 1, i, s => by
    rw [List.take_succ_cons]
    have ih := audit_take R r k (i + 1) (seeV (R o) s o).1
    rw [show auditFrom R i s (o :: r.take k) = if (seeV (R o) s o).2 = 0 then auditFrom R (i + 1) (seeV (R o) s o).1 (r.take k) else (i, (seeV (R o) s o).2) from rfl,
      show auditFrom R i s (o :: r) = if (seeV (R o) s o).2 = 0 then auditFrom R (i + 1) (seeV (R o) s o).1 r else (i, (seeV (R o) s o).2) from rfl]
    by_cases hz : (seeV (R o) s o).2 = 0
    · rw [if_pos hz, if_pos hz, ih]
      have e : ((i + 1 : Nat) : Int) + k = (i : Int) + ((k + 1 : Nat) : Int) := by omega
      rw [e]
    · rw [if_neg hz, if_neg hz, if_pos ⟨hz, by show (i : Int) < _; omega⟩]
end Go.Proofs.Ytghjhcobmbobcaa.Wt
