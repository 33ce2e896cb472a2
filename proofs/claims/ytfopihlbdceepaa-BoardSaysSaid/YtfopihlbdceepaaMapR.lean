/-
  A map from texts to rules that the call itself has made: asking it, storing into it, going through it. Conditions: those that each lemma names; no program is named here.
-/
import Derived.Test.YtfopihlbdceepaaBoardQ
import Derived.Test.YtfopihlbdceepaaSeen
import Derived.Maps.RangeWalk
import Derived.Maps.OwnSet
import Derived.Sort.MapsRangeIn
import Derived.StringKeys
namespace Go.Proofs.Ytfopihlbdceepaa
open Go.RowKit Go.Maps

def rlA (r : Rul) : Value := .agg #[.string r.1, .int .i64 r.2.1, .int .i64 r.2.2]
theorem rlA_inj {r s : Rul} (h : rlA r = rlA s) : r = s := by
  obtain ⟨a, b, c⟩ := r
  obtain ⟨a2, b2, c2⟩ := s
  simp [rlA] at h
  obtain ⟨rfl, rfl, rfl⟩ := h
  rfl
open Classical in
noncomputable def ruleR (v : Value) : Option (DataW Rul × List MemPlace) := if h : ∃ r, v = rlA r then some (.held h.choose, []) else none
theorem ruleR_mk (r : Rul) : ruleR (rlA r) = some (.held r, []) := by
  have h : ∃ s, rlA r = rlA s := ⟨r, rfl⟩
  unfold ruleR
  rw [dif_pos h, ← rlA_inj h.choose_spec]
theorem ruleR_inv {v : Value} {y : DataW Rul × List MemPlace} (h : ruleR v = some y) : ∃ r, v = rlA r ∧ y = (.held r, []) := by
  by_cases hx : ∃ r, v = rlA r
  · obtain ⟨r, rfl⟩ := hx
    rw [ruleR_mk] at h
    injection h with h
    exact ⟨r, rfl, h.symm⟩
  · unfold ruleR at h
    rw [dif_neg hx] at h
    cases h
abbrev kyl (s : ByteArray) : Lit := .string (by8 s)
theorem kyl_inj {a b : ByteArray} (h : kyl a = kyl b) : a = b := by injection h with h; exact by8_inj h
theorem kyl_key (a : ByteArray) : WideAt.IsKeyLit (kyl a) := trivial
/-- The map's datum says of each text what the list says. -/
def Says (D : DataW Rul) (m : List Rul) : Prop := ∀ key z, D.atKey (kyl key) z = match look key m with | some r => .held r | none => z
/-- Block b is a map of at most n rules, that holds the list m. -/
def MapR (P : Program) (k : TypeId) (w : World) (b n : Nat) (m : List Rul) : Prop := ∃ D : DataW Rul, w.ownsMap P k ruleR b n D ∧ IsMap D ∧ Says D m
section
variable {P : Program} {k e t : TypeId} {w w' : World} {b n : Nat} {m : List Rul}
theorem MapR.made (w : World) (P : Program) (k : TypeId) : MapR P k (w.alloc (.map #[] 0)) w.heap.size 0 [] :=
  ⟨.map [], World.ownsMap_made w P k _, ⟨[], rfl⟩, fun _ _ => rfl⟩
theorem MapR.lt (h : MapR P k w b n m) : b < w.heap.size := by
  obtain ⟨D, hD, _⟩ := h
  exact hD.lt
theorem MapR.below {B : Nat} (h : MapR P k w b n m) (hb : Below B w w') (hB : b < B) : MapR P k w' b n m := by
  obtain ⟨D, ⟨es, clock, h1, h2, h3, h4⟩, hm, hp⟩ := h
  exact ⟨D, ⟨es, clock, by rw [hb.block b hB]; exact h1, h2, h3, h4⟩, hm, hp⟩
theorem MapR.drew (h : MapR P k w b n m) : MapR P k w.drew b n m := h
theorem MapR.drewN (h : MapR P k w b n m) (q : Nat) : MapR P k (w.drewN q) b n m := h
theorem MapR.alloc (h : MapR P k w b n m) (o : Obj) : MapR P k (w.alloc o) b n m := by
  obtain ⟨D, hD, r⟩ := h
  exact ⟨D, hD.alloc o, r⟩
theorem MapR.far (h : MapR P k w b n m) {p : Addr} (hp : b ≠ p.block) (u : Value) : MapR P k (w.setCell p u) b n m := by
  obtain ⟨D, hD, r⟩ := h
  exact ⟨D, hD.setCell hp u, r⟩
theorem MapR.mono (h : MapR P k w b n m) {q : Nat} (hn : n ≤ q) : MapR P k w b q m := by
  obtain ⟨D, hD, r⟩ := h
  exact ⟨D, hD.mono hn, r⟩
/-- The rule at a key, or nothing. -/
def atR (key : ByteArray) (m : List Rul) : Rul := (look key m).getD (⟨#[]⟩, 0, 0)
theorem MapR.look_ok (h : MapR P k w b n m) (K : Keyed P k) (hk : P.underlying k = some .string) (ht : P.underlying t = some (.map k e)) (hz : (zeroValue e).run P w = .ok (rlA (⟨#[]⟩, 0, 0)) w) {key : ByteArray} (hs : key.size ≤ maxLen) :
    (Instr.lookup t (.map (some b)) (.string key) true).run P w = .ok (.tuple #[rlA (atR key m), .bool (look key m).isSome]) w := by
  obtain ⟨D, hD, hm, hp⟩ := h
  obtain ⟨v, ps, hrun, hv⟩ := hD.look_ok K ht hz (ruleR_mk _) (Go.WideMaps.keyOf_string_mk hk hs)
  obtain ⟨r, rfl, hr⟩ := ruleR_inv hv
  have hq := hp key
  injection hr with hr
  rw [hrun]
  unfold atR
  cases hl : look key m with
  | none =>
    rw [hl] at hq
    rw [hq] at hr
    injection hr with hr
    rw [has_false_of_atKey (k := kyl key) hq, ← hr]
    rfl
  | some s =>
    rw [hl] at hq
    rw [hq] at hr
    injection hr with hr
    rw [has_true_of_atKey (k := kyl key) hq, ← hr]
    rfl
theorem Says.put {D : DataW Rul} (hm : IsMap D) (h : Says D m) (hu : UpR m) {r : Rul} (hn : ∀ s, look r.1 m = some s → newer r s = true) : Says (D.put (kyl r.1) (.held r)) (putR r m) := by
  intro key z
  rw [look_put hu hn]
  by_cases e : key = r.1
  · rw [if_pos e, e, atKey_put_same hm (kyl_key _)]
  · rw [if_neg e, atKey_put_other (fun h => e (kyl_inj h)), h key z]
/-- 'm[k] = v' at the operation. -/
theorem wpList_mapr_put {ops : Array Oper} {rest : List Oper} {o : Oper} {a : Act} {Q : Exit → Act → World → Prop} (hg : o.guard = none) (mo x v : Operand) (hop : o.op = Op.mapUpdate t mo x v)
    (h : MapR P k w b n m) (K : Keyed P k) (hk : P.underlying k = some .string) (ht : P.underlying t = some (.map k e)) (hn : n < maxLen) (hmo : a.eval mo = .map (some b)) (r : Rul) (hx : a.eval x = .string r.1) (hv : a.eval v = .agg #[.string r.1, .int .i64 r.2.1, .int .i64 r.2.2]) (hs : r.1.size ≤ maxLen)
    (hu : UpR m) (hnew : ∀ s, look r.1 m = some s → newer r s = true)
    (hK : ∀ w', MapR P k w' b (n + 1) (putR r m) → w.grownBy w' (some b) → wpList P ops Q rest (a.put o.dst undef) w') : wpList P ops Q (o :: rest) a w := by
  obtain ⟨D, hD, hmp, hp⟩ := h
  exact wpList_mapUpdate_own w hg mo x v t hop k e K ht ruleR b n D hmo hD hn (.string r.1) (rlA r) (kyl r.1) hx hv (Go.WideMaps.keyOf_string_mk hk hs) (.held r) [] (ruleR_mk r)
    (fun w' h1 h2 => hK w' ⟨_, h1, hmp.put _ _, hp.put hmp hu hnew⟩ h2)
/-- 'v, ok := m[k]' at the operation. -/
theorem wpList_mapr_look {ops : Array Oper} {rest : List Oper} {o : Oper} {a : Act} {Q : Exit → Act → World → Prop} (hg : o.guard = none) (mo x : Operand) (hop : o.op = Op.lookup t mo x true)
    (h : MapR P k w b n m) (K : Keyed P k) (hk : P.underlying k = some .string) (ht : P.underlying t = some (.map k e)) (hz : (zeroValue e).run P w = .ok (rlA (⟨#[]⟩, 0, 0)) w) (hmo : a.eval mo = .map (some b)) (key : ByteArray) (hx : a.eval x = .string key) (hs : key.size ≤ maxLen) {q : ByteArray} {u v : Int} (hat : atR key m = (q, u, v)) {B : Bool} (hB : (look key m).isSome = B)
    (hK : wpList P ops Q rest (a.put o.dst (.tuple #[.agg #[.string q, .int .i64 u, .int .i64 v], .bool B])) w) : wpList P ops Q (o :: rest) a w := by
  refine wpList_plain hg fun K' hK' => ?_
  have hrun := h.look_ok (t := t) K hk ht hz hs
  rw [hat, hB] at hrun
  unfold rlA at hrun
  unfold Oper.wp
  simp [execOp, hop, hmo, hx, hrun, Result.andThen]
  exact hK' _ _ hK
/-- The iterator r of the map b: what has come is o; cnt are still to come. -/
def RanR (P : Program) (k : TypeId) (w : World) (b r n : Nat) (m o : List Rul) (cnt : Nat) : Prop :=
  ∃ (D : DataW Rul) (left : Lit → Bool), w.ranges P k ruleR b r n D left cnt ∧ Says D m ∧ (∀ s, s ∈ o ↔ s ∈ m ∧ left (kyl s.1) = false) ∧ o.Pairwise (fun x y => x.1 ≠ y.1) ∧ o.length + cnt ≤ n
section
variable {r cnt : Nat} {o : List Rul}
theorem RanR.kept (h : RanR P k w b r n m o cnt) {row : Option Nat} (hg : w.grownBy w' row) (hb : some b ≠ row) (hr : some r ≠ row) : RanR P k w' b r n m o cnt := by
  obtain ⟨D, left, h1, h2⟩ := h
  exact ⟨D, left, h1.kept hg hb hr, h2⟩
theorem RanR.alloc (h : RanR P k w b r n m o cnt) (ob : Obj) : RanR P k (w.alloc ob) b r n m o cnt := by
  obtain ⟨D, left, h1, h2⟩ := h
  exact ⟨D, left, h1.alloc ob, h2⟩
theorem RanR.set (h : RanR P k w b r n m o cnt) {p : Addr} (hb : b ≠ p.block) (hr : r ≠ p.block) (u : Value) : RanR P k (w.setCell p u) b r n m o cnt :=
  h.kept (row := some p.block) ⟨rfl, rfl, rfl, by simp, fun j _ hj => Below.heap_setCell _ _ _ _ (fun e => hj (by rw [e]))⟩ (fun e => hb (by injection e)) (fun e => hr (by injection e))
theorem RanR.lt (h : RanR P k w b r n m o cnt) : r < w.heap.size := by
  obtain ⟨D, left, h1, h2⟩ := h
  exact h1.lt
theorem RanR.ne (h : RanR P k w b r n m o cnt) : r ≠ b := by
  obtain ⟨D, left, h1, h2⟩ := h
  exact h1.ne
theorem RanR.left_eq (h : RanR P k w b r n m o cnt) : w.rangeLeft b r = cnt := by
  obtain ⟨D, left, h1, h2⟩ := h
  exact h1.left_eq
theorem RanR.room (h : RanR P k w b r n m o cnt) : o.length + cnt ≤ n := by
  obtain ⟨D, left, h1, h2, h3, h4, h5⟩ := h
  exact h5
end
theorem has_of_says {D : DataW Rul} (h : Says D m) (key : ByteArray) : has D (kyl key) = (look key m).isSome := by
  have hq := h key
  cases hl : look key m with
  | none => rw [hl] at hq; rw [has_false_of_atKey (k := kyl key) hq]; rfl
  | some s => rw [hl] at hq; rw [has_true_of_atKey (k := kyl key) hq]; rfl
/-- 'range m'. -/
theorem wpList_mapr_range {ops : Array Oper} {rest : List Oper} {o : Oper} {a : Act} {Q : Exit → Act → World → Prop} (hg : o.guard = none) (mo : Operand) (hop : o.op = Op.range t mo) (h : MapR P k w b n m) (hu : UpR m) (K : Keyed P k) (ht : P.underlying t = some (.map k e)) (hmo : a.eval mo = .map (some b))
    (hK : ∀ w' cnt, RanR P k w' b w.heap.size n m [] cnt → w.grownBy w' none → w'.heap.size = w.heap.size + 1 → wpList P ops Q rest (a.put o.dst (.pointer (some ⟨w.heap.size, 0, none⟩))) w') : wpList P ops Q (o :: rest) a w := by
  obtain ⟨D, hD, hmp, hp⟩ := h
  refine wpList_range_own w hg mo t hop k e K ht ruleR b n D hmo hD fun w' h1 h2 h3 => hK w' _ ⟨D, has D, h1, hp, fun s => ?_, List.Pairwise.nil, by simpa using hD.size_le⟩ h2 h3
  rw [has_of_says hp]
  constructor
  · intro h; cases h
  · rintro ⟨h4, h5⟩
    rw [look_of hu h4 rfl] at h5
    cases h5
/-- The step. -/
theorem wpList_mapr_next {ops : Array Oper} {rest : List Oper} {o : Oper} {a : Act} {Q : Exit → Act → World → Prop} (hg : o.guard = none) (it : Operand) (hop : o.op = Op.next it false) (K : Keyed P k) (hk : P.underlying k = some .string) (hu : UpR m) {r cnt : Nat} {out : List Rul}
    (hit : a.eval it = .pointer (some ⟨r, 0, none⟩)) (h : RanR P k w b r n m out cnt)
    (hDone : (∀ s, s ∈ out ↔ s ∈ m) → out.Pairwise (fun x y => x.1 ≠ y.1) → wpList P ops Q rest (a.put o.dst (.tuple #[.bool false])) w)
    (hMore : ∀ (c : Rul) (w' : World) (cnt' : Nat), c ∈ m → RanR P k w' b r n m (out ++ [c]) cnt' → cnt' < cnt → w.grownBy w' (some r) → w'.heap.size = w.heap.size →
      (Instr.entry (.pointer (some ⟨r, 0, none⟩))).run P w' = .ok (.tuple #[.string c.1, .agg #[.string c.1, .int .i64 c.2.1, .int .i64 c.2.2]]) w' → wpList P ops Q rest (a.put o.dst (.tuple #[.bool true, .string c.1, .agg #[.string c.1, .int .i64 c.2.1, .int .i64 c.2.2]])) w') : wpList P ops Q (o :: rest) a w := by
  obtain ⟨D, left, h1, h2, h3, h4, h5⟩ := h
  refine wpList_next_ranges w hg it hop k K ruleR Value.string rlA (fun key kl hkey => keyOf_string_inv hk hkey) (fun v y hv => by obtain ⟨c, rfl, _⟩ := ruleR_inv hv; exact ⟨c, rfl⟩) b r n D left cnt hit h1 ?_ ?_
  · intro _ hl
    exact hDone (fun s => by rw [h3 s]; exact ⟨fun h => h.1, fun h => ⟨h, hl _⟩⟩) h4
  · intro x c kl y w' cnt' hkey hlk hv hat hrg hlt hgr hsz hen
    obtain ⟨c', e1, rfl⟩ := ruleR_inv hv
    have := rlA_inj e1
    subst this
    have hkl : kl = kyl x := by
      obtain ⟨s, e1, e2, _⟩ := Go.WideMaps.string_of_keyOf hk hkey
      injection e1 with e1
      subst e1
      exact e2
    subst hkl
    have hq := h2 x
    have hl : look x m = some c := by
      cases hl : look x m with
      | none =>
        rw [hl] at hq
        have e2 := hat (.map [])
        rw [hq] at e2
        cases e2
      | some s =>
        rw [hl] at hq
        have e2 := hat (.map [])
        rw [hq] at e2
        injection e2 with e2
        rw [e2]
    obtain ⟨hcm, hcx⟩ := look_mem hl
    subst hcx
    refine hMore c w' cnt' hcm ⟨D, _, hrg, h2, fun s => ?_, ?_, ?_⟩ hlt hgr hsz hen
    · rw [List.mem_append, List.mem_singleton, h3 s]
      constructor
      · rintro (⟨a1, a2⟩ | rfl)
        · exact ⟨a1, by rw [a2]; rfl⟩
        · exact ⟨hcm, by rw [WideAt.sameKey_self (kyl_key _)]; simp⟩
      · rintro ⟨a1, a2⟩
        cases hs : left (kyl s.1) with
        | false => exact .inl ⟨a1, rfl⟩
        | true =>
          rw [hs] at a2
          right
          by_cases e : s.1 = c.1
          · have h7 := look_of hu a1 e
            rw [hl] at h7
            injection h7 with h7
            exact h7.symm
          · rw [sameKey_ne (fun h => e (kyl_inj h))] at a2
            simp at a2
    · rw [List.pairwise_append]
      refine ⟨h4, List.pairwise_singleton _ _, fun s hs q hqq => ?_⟩
      rw [List.mem_singleton] at hqq
      subst hqq
      intro e
      have := ((h3 s).1 hs).2
      rw [e, hlk] at this
      cases this
    · rw [List.length_append]
      simp
      omega
end
/-- Behind the sort: the rules that the map held. -/
theorem sorted_is {o o' m : List Rul} (hp : o'.Perm o) (hs : o'.Pairwise (fun a b => ltB b.1 a.1 = false)) (hd : o.Pairwise (fun x y => x.1 ≠ y.1)) (hm : ∀ s, s ∈ o ↔ s ∈ m) (hu : UpR m) : o' = m := by
  refine upR_ext ?_ hu fun r => by rw [hp.mem_iff, hm r]
  have hd' : o'.Pairwise (fun x y => x.1 ≠ y.1) := hp.symm.pairwise hd (fun h e => h e.symm)
  refine (hs.and hd').imp fun {a b} ⟨h1, h2⟩ => ?_
  cases h : ltB a.1 b.1 with
  | true => rfl
  | false => exact absurd (ltB_total h h1) h2
end Go.Proofs.Ytfopihlbdceepaa
