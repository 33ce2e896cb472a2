/-
  A set kept as a map to bools that the call itself has made: asking it, storing into it. Conditions: those that each lemma names; no program is named here.
-/
import Derived.Test.YtfopihlbdceepaaMem
import Derived.Maps.OwnOps
import Derived.Maps.Views
import Derived.Sort.KeysCollected
namespace Go.Proofs.Ytfopihlbdceepaa
open Go.RowKit Go.Maps

theorem plainElem_bool_inv {H : Type} {P : Program} {e : TypeId} (he : P.underlying e = some .bool) {v : Value} {z : DataW H × List MemPlace} (h : plainElem P e v = some z) : ∃ b, v = .bool b ∧ z = (.lit (.bool b), []) := by
  unfold plainElem at h
  rw [he] at h
  cases v <;> simp at h
  subst h
  exact ⟨_, rfl, rfl⟩
theorem lookup_bool {H : Type} {P : Program} {k t e : TypeId} {w : World} {b n : Nat} {D : DataW H} (h : w.ownsMap P k (plainElem P e) b n D) (K : Keyed P k) (ht : P.underlying t = some (.map k e)) (he : P.underlying e = some .bool) (hz : (zeroValue e).run P w = .ok (.bool false) w)
    {key : Value} {kl : Lit} (hkey : keyOf P k key = some kl) : ∃ c, (Instr.lookup t (.map (some b)) key false).run P w = .ok (.bool c) w ∧ D.atKey kl (.lit (.bool false)) = .lit (.bool c) := by
  obtain ⟨v, ps, hrun, hv⟩ := h.lookup K ht hz (plainElem_bool he false) hkey
  obtain ⟨c, rfl, hc⟩ := plainElem_bool_inv he hv
  simp only [Prod.mk.injEq] at hc
  exact ⟨c, hrun, hc.1⟩
/-- Block b is a map of at most n entries, that says p of each key. -/
def Seen (P : Program) (k e : TypeId) (w : World) (b n : Nat) (p : Lit → Bool) : Prop := ∃ D : DataW Unit, w.ownsMap P k (plainElem P e) b n D ∧ IsMap D ∧ ∀ kl, WideAt.IsKeyLit kl → D.atKey kl (.lit (.bool false)) = .lit (.bool (p kl))
section
variable {P : Program} {k e t : TypeId} {w w' : World} {b n : Nat} {p : Lit → Bool}
theorem Seen.made (w : World) (P : Program) (k e : TypeId) : Seen P k e (w.alloc (.map #[] 0)) w.heap.size 0 (fun _ => false) :=
  ⟨.map [], World.ownsMap_made w P k _, ⟨[], rfl⟩, fun _ _ => rfl⟩
theorem Seen.lt (h : Seen P k e w b n p) : b < w.heap.size := by
  obtain ⟨D, hD, _⟩ := h
  exact hD.lt
theorem Seen.below {B : Nat} (h : Seen P k e w b n p) (hb : Below B w w') (hB : b < B) : Seen P k e w' b n p := by
  obtain ⟨D, ⟨es, clock, h1, h2, h3, h4⟩, hm, hp⟩ := h
  exact ⟨D, ⟨es, clock, by rw [hb.block b hB]; exact h1, h2, h3, h4⟩, hm, hp⟩
theorem Seen.drew (h : Seen P k e w b n p) : Seen P k e w.drew b n p := h
theorem Seen.drewN (h : Seen P k e w b n p) (q : Nat) : Seen P k e (w.drewN q) b n p := h
theorem Seen.alloc (h : Seen P k e w b n p) (o : Obj) : Seen P k e (w.alloc o) b n p := by
  obtain ⟨D, hD, r⟩ := h
  exact ⟨D, hD.alloc o, r⟩
theorem Seen.mono (h : Seen P k e w b n p) {m : Nat} (hn : n ≤ m) : Seen P k e w b m p := by
  obtain ⟨D, hD, r⟩ := h
  exact ⟨D, hD.mono hn, r⟩
theorem Seen.look (h : Seen P k e w b n p) (K : Keyed P k) (ht : P.underlying t = some (.map k e)) (he : P.underlying e = some .bool) (hz : (zeroValue e).run P w = .ok (.bool false) w) {key : Value} {kl : Lit} (hkey : keyOf P k key = some kl) (hkl : WideAt.IsKeyLit kl) :
    (Instr.lookup t (.map (some b)) key false).run P w = .ok (.bool (p kl)) w := by
  obtain ⟨D, hD, hm, hp⟩ := h
  obtain ⟨c, hrun, hc⟩ := lookup_bool hD K ht he hz hkey
  rw [hp kl hkl] at hc
  injection hc with hc
  injection hc with hc
  rw [hc]; exact hrun
theorem Seen.put {D : DataW Unit} {x : Lit} (hm : IsMap D) (hp : ∀ kl, WideAt.IsKeyLit kl → D.atKey kl (.lit (.bool false)) = .lit (.bool (p kl))) (hx : WideAt.IsKeyLit x) (c : Bool) :
    IsMap (D.put x (.lit (.bool c))) ∧ ∀ kl, WideAt.IsKeyLit kl → (D.put x (.lit (.bool c))).atKey kl (.lit (.bool false)) = .lit (.bool (bif kl.sameKey x then c else p kl)) := by
  refine ⟨?_, fun kl hkl => ?_⟩
  · obtain ⟨es, rfl⟩ := hm
    exact ⟨_, rfl⟩
  · by_cases e : kl = x
    · subst e
      rw [WideAt.sameKey_self hkl, atKey_put_same hm hkl]; rfl
    · rw [sameKey_ne e, atKey_put_other e, hp kl hkl]; rfl
/-- 'm[k] = true' at the operation. -/
theorem wpList_seen_put {ops : Array Oper} {rest : List Oper} {o : Oper} {a : Act} {Q : Exit → Act → World → Prop} (hg : o.guard = none) (m x v : Operand) (hop : o.op = Op.mapUpdate t m x v)
    (h : Seen P k e w b n p) (K : Keyed P k) (ht : P.underlying t = some (.map k e)) (he : P.underlying e = some .bool) (hn : n < maxLen) (hm : a.eval m = .map (some b)) (key : Value) (kl : Lit) (c : Bool) (hx : a.eval x = key) (hv : a.eval v = .bool c) (hkey : keyOf P k key = some kl) (hkl : WideAt.IsKeyLit kl)
    (hK : ∀ w', Seen P k e w' b (n + 1) (fun y => bif y.sameKey kl then c else p y) → w.grownBy w' (some b) → wpList P ops Q rest (a.put o.dst undef) w') : wpList P ops Q (o :: rest) a w := by
  obtain ⟨D, hD, hmp, hp⟩ := h
  exact wpList_mapUpdate_own w hg m x v t hop k e K ht (plainElem P e) b n D hm hD hn key (.bool c) kl hx hv hkey (.lit (.bool c)) [] (plainElem_bool he c)
    (fun w' h1 h2 => hK w' ⟨_, h1, (Seen.put hmp hp hkl c).1, (Seen.put hmp hp hkl c).2⟩ h2)
/-- 'm[k]' at the operation. -/
theorem wpList_seen_look {ops : Array Oper} {rest : List Oper} {o : Oper} {a : Act} {Q : Exit → Act → World → Prop} (hg : o.guard = none) (m x : Operand) (hop : o.op = Op.lookup t m x false)
    (h : Seen P k e w b n p) (K : Keyed P k) (ht : P.underlying t = some (.map k e)) (he : P.underlying e = some .bool) (hz : (zeroValue e).run P w = .ok (.bool false) w) (hm : a.eval m = .map (some b)) (key : Value) (kl : Lit) (hx : a.eval x = key) (hkey : keyOf P k key = some kl) (hkl : WideAt.IsKeyLit kl)
    (hK : wpList P ops Q rest (a.put o.dst (.bool (p kl))) w) : wpList P ops Q (o :: rest) a w := by
  refine wpList_plain hg fun K' hK' => ?_
  have hrun := h.look (t := t) K ht he hz hkey hkl
  unfold Oper.wp
  simp [execOp, hop, hm, hx, hrun, Result.andThen]
  exact hK' _ _ hK
end
end Go.Proofs.Ytfopihlbdceepaa
