/-
  A region that draws its order: an operation that only reads may be taken first although the region's LAST operations write the cell it reads. Conditions: the condition on the world is asked only as long as the operations that need what was read have not all come up.
-/
import Derived.WalkKit
import Derived.Deep.RegionHeld3
namespace Go.Proofs.YtfopihlbdceepaaGreat
open Go
section
variable {P : Program} {ops : Array Oper} {Q : Exit → Act → World → Prop} {md : Region.Mode} {S : Array Bool → World → Prop}

/-- Whatever comes up next, the condition of what has come up by then holds behind it. -/
def anyTill (P : Program) (md : Region.Mode) (ops : Array Oper) (Q : Exit → Act → World → Prop) (S : Array Bool → World → Prop) : Nat → Array Bool → Act → World → Prop
  | 0 => fun l a w => Region.ready md ops l = [] ∧ Q .normal a w
  | k + 1 => fun l a w => (Region.ready md ops l = [] → Q .normal a w) ∧ ∀ i ∈ Region.ready md ops l, wpOp P ops Q i (fun a2 w2 => S (l.setIfInBounds i true) w2 ∧ anyTill P md ops Q S k (l.setIfInBounds i true) a2 w2) a w

theorem anyTill.any : ∀ (k : Nat) {l : Array Bool} {a : Act} {w : World}, anyTill P md ops Q S k l a w → wpAny P md ops Q k l a w
  | 0, _, _, _, h => h
  | k + 1, _, _, _, h => ⟨h.1, fun i hi => wpOp_mono (fun _ _ hr => anyTill.any k hr.2) (h.2 i hi)⟩

theorem anyTill.begin {id : Nat} {a : Act} {w : World} (hm : P.follows .mixedOrders = true)
    (h : anyTill P .any ops Q S ops.size (Array.replicate ops.size false) a w.drew) : (Code.region id ops true).wp P Q a w :=
  wp_region_any hm (anyTill.any _ h)

theorem anyTill.fin {l : Array Bool} {a : Act} {w : World} (hr : Region.ready md ops l = []) (h : Q .normal a w) : ∀ k, anyTill P md ops Q S k l a w
  | 0 => ⟨hr, h⟩
  | _ + 1 => ⟨fun _ => h, fun i hi => by rw [hr] at hi; cases hi⟩

/-- The law: T is what holds of the list as long as i has not come up; with it S says C. -/
theorem anyTill.first {T : Array Bool → Prop} {C : World → Prop} {i : Nat} {oi : Oper} {v : Value} (hi : ops[i]? = some oi) (hsel : Region.noSelect ops = true)
    (hQ : ∀ c a w, Q (.panic c) (a.put oi.dst v) w → Q (.panic c) a w)
    (hT : ∀ l j, T l → i ∈ Region.ready md ops l → j ∈ Region.ready md ops l → j ≠ i → T (l.setIfInBounds j true))
    (hC : ∀ l w, T l → S l w → C w) (hB : ∀ l w, S (l.setIfInBounds i true) w ↔ S l w) :
    ∀ (k : Nat) (l : Array Bool) (a : Act) (w : World), T l →
      (∀ j oj, ops[j]? = some oj → j ≠ i → l.getD j true = false → (∀ e ∈ oj.after, Region.binds md e = true → e.on ≠ i) → oi.apart ops oj = true) →
      i ∈ Region.ready md ops l → YieldsIf P ops C oi v a → S l w →
      anyTill P md ops Q S k (l.setIfInBounds i true) (a.put oi.dst v) w → anyTill P md ops Q S (k + 1) l a w := by
  intro k
  induction k with
  | zero =>
    intro l a w ht _ hr hy hs H
    refine ⟨fun h => (by rw [h] at hr; cases hr), fun j hj => ?_⟩
    by_cases e : j = i
    · exact e ▸ hy.wpOp hi (hC l w ht hs) ⟨(hB l w).2 hs, H⟩
    · have := ready_mono (md := md) (ops := ops) hj e
      rw [H.1] at this
      cases this
  | succ k ih =>
    intro l a w ht hfree hr hy hs H
    refine ⟨fun h => (by rw [h] at hr; cases hr), fun j hj => ?_⟩
    by_cases e : j = i
    · exact e ▸ hy.wpOp hi (hC l w ht hs) ⟨(hB l w).2 hs, H⟩
    obtain ⟨un, oj, hoj, hall⟩ := mem_ready.1 hj
    have far : ∀ x ∈ oj.after, Region.binds md x = true → x.on ≠ i := fun x hx hb hxi => by
      have up := hall x hx hb
      have dn := (mem_ready.1 hr).1
      rw [hxi] at up
      by_cases hlt : i < l.size
      · simp [hlt] at up dn; rw [dn] at up; cases up
      · simp [Array.getElem?_eq_none (Nat.le_of_not_lt hlt)] at up
    have hap := hfree j oj hoj e un far
    have h2 := wpOp_putIf hoj hap (fun cs b => Region.noSelect_spec hsel i oi cs b hi) (fun cs b => Region.noSelect_spec hsel j oj cs b hoj) hQ hy (H.2 j (ready_mono hj e))
    refine wpOp_mono (fun a2 w2 h3 => ?_) h2
    obtain ⟨hy2, hs2, H2⟩ := h3
    rw [Array.setIfInBounds_comm _ _ (Ne.symm e)] at hs2 H2
    have hs3 := (hB _ _).1 hs2
    refine ⟨hs3, ih (l.setIfInBounds j true) a2 w2 (hT l j ht hr hj e) (fun k2 ok hk hki hun hno => hfree k2 ok hk hki ?_ hno) (ready_mono hr (Ne.symm e)) hy2 hs3 H2⟩
    by_cases hjk : j = k2
    · exact hjk ▸ un
    · rwa [getD_set_ne true hjk] at hun

/-- What yields in whatever world. -/
theorem anyTill.take {i : Nat} {oi : Oper} {v : Value} {k : Nat} {l : Array Bool} {a : Act} {w : World} (hi : ops[i]? = some oi) (hsel : Region.noSelect ops = true) (hf : Region.free md ops l i = true) (hr : (Region.ready md ops l).contains i = true)
    (hQ : ∀ c a w, Q (.panic c) (a.put oi.dst v) w → Q (.panic c) a w) (hB : ∀ l w, S (l.setIfInBounds i true) w ↔ S l w) (hy : YieldsIf P ops (fun _ => True) oi v a) (hs : S l w)
    (h : anyTill P md ops Q S k (l.setIfInBounds i true) (a.put oi.dst v) w) : anyTill P md ops Q S (k + 1) l a w :=
  anyTill.first (T := fun _ => True) (C := fun _ => True) hi hsel hQ (fun _ _ _ _ _ _ => trivial) (fun _ _ _ _ => trivial) hB k l a w trivial (Region.free_spec hi hf) (by simpa using hr) hy hs h

/-- Does number m wait for number i? -/
def waits (md : Region.Mode) (ops : Array Oper) (m i : Nat) : Bool := match ops[m]? with | some o => o.after.any (fun e => Region.binds md e && e.on == i) | none => false

/-- What reads, and whose value number m waits for. -/
theorem anyTill.read {C : World → Prop} {i m : Nat} {oi : Oper} {v : Value} {k : Nat} {l : Array Bool} {a : Act} {w : World} (hi : ops[i]? = some oi) (hsel : Region.noSelect ops = true) (hf : Region.free md ops l i = true) (hr : (Region.ready md ops l).contains i = true)
    (hw : waits md ops m i = true) (hl : l.getD m true = false) (hC : ∀ l w, l.getD m true = false → S l w → C w)
    (hQ : ∀ c a w, Q (.panic c) (a.put oi.dst v) w → Q (.panic c) a w) (hB : ∀ l w, S (l.setIfInBounds i true) w ↔ S l w) (hy : YieldsIf P ops C oi v a) (hs : S l w)
    (h : anyTill P md ops Q S k (l.setIfInBounds i true) (a.put oi.dst v) w) : anyTill P md ops Q S (k + 1) l a w := by
  refine anyTill.first (T := fun l => l.getD m true = false) hi hsel hQ ?_ hC hB k l a w hl (Region.free_spec hi hf) (by simpa using hr) hy hs h
  intro l j hT hr hj hne
  have hjm : j ≠ m := fun e => by
    subst e
    obtain ⟨_, oj, hoj, hall⟩ := mem_ready.1 hj
    simp only [waits, hoj] at hw
    obtain ⟨x, hx, hb⟩ := Array.any_eq_true'.1 hw
    simp only [Bool.and_eq_true, beq_iff_eq] at hb
    have up := hall x hx hb.1
    have dn := (mem_ready.1 hr).1
    rw [hb.2] at up
    by_cases hlt : i < l.size
    · simp [hlt] at up dn; rw [dn] at up; cases up
    · simp [Array.getElem?_eq_none (Nat.le_of_not_lt hlt)] at up
  rwa [getD_set_ne true hjm]

/-- One after the other of those that may come up. -/
def AllTill (P : Program) (md : Region.Mode) (ops : Array Oper) (Q : Exit → Act → World → Prop) (S : Array Bool → World → Prop) (k : Nat) (l : Array Bool) (a : Act) (w : World) (rs : List Nat) : Prop :=
  ∀ i ∈ rs, wpOp P ops Q i (fun a2 w2 => S (l.setIfInBounds i true) w2 ∧ anyTill P md ops Q S k (l.setIfInBounds i true) a2 w2) a w
theorem AllTill.nil {k : Nat} {l : Array Bool} {a : Act} {w : World} : AllTill P md ops Q S k l a w [] := fun _ h => by cases h
theorem AllTill.cons {k : Nat} {l : Array Bool} {a : Act} {w : World} {i : Nat} {o : Oper} {rs : List Nat} (ho : ops[i]? = some o)
    (h : ∀ K : Act → World → Prop, Shut (∀ a w, S (l.setIfInBounds i true) w → (S (l.setIfInBounds i true) w → anyTill P md ops Q S k (l.setIfInBounds i true) a w) → K a w) → if Region.wanted o (yielded ops a.tmps) = true then Oper.wp P o a w K Q else K (a.put o.dst undef) w)
    (hs : AllTill P md ops Q S k l a w rs) : AllTill P md ops Q S k l a w (i :: rs) := fun j hj => by
  rcases List.mem_cons.1 hj with e | e
  · subst e; exact wpOp_step ho (fun K hK => h K (fun a w h1 h2 => hK a w ⟨h1, h2 h1⟩))
  · exact hs j e
theorem anyTill.ready {rs : List Nat} {k : Nat} {l : Array Bool} {a : Act} {w : World} (hr : Region.ready md ops l = rs) (hne : rs ≠ []) (h : AllTill P md ops Q S k l a w rs) : anyTill P md ops Q S (k + 1) l a w :=
  ⟨fun h0 => absurd (hr ▸ h0) hne, hr ▸ h⟩
end
end Go.Proofs.YtfopihlbdceepaaGreat
