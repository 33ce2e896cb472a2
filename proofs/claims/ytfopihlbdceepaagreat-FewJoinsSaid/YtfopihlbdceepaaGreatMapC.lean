/-
  A map from keys to counts that the call itself has made: asking it, storing into it, going through it. Conditions: those that each lemma names; no program is named here.
-/
import Derived.Test.YtfopihlbdceepaaGreatFewP
import Derived.Test.YtfopihlbdceepaaGreatMem
import Derived.Maps.OwnOps
import Derived.Maps.Views
import Derived.Maps.RangeWalk
import Derived.Maps.OwnSet
import Derived.Sort.KeysCollected
namespace Go.Proofs.YtfopihlbdceepaaGreat
open Go.RowKit Go.Maps

/-- What a key counts, where it is there. -/
def lookC (key : Int) : List Ct → Option Int
  | [] => none
  | p :: l => if p.1 = key then some p.2 else lookC key l
theorem lookC_none {key : Int} : ∀ {l : List Ct}, (∀ p ∈ l, p.1 ≠ key) → lookC key l = none
  | [], _ => rfl
  | p :: l, h => by
    unfold lookC
    rw [if_neg (h p List.mem_cons_self)]
    exact lookC_none fun q hq => h q (List.mem_cons_of_mem _ hq)
theorem lookC_mem {key v : Int} : ∀ {l : List Ct}, lookC key l = some v → (key, v) ∈ l
  | [], h => by cases h
  | p :: l, h => by
    unfold lookC at h
    split at h
    · rename_i e
      injection h with h
      have : p = (key, v) := Prod.ext e h
      rw [this]; exact List.mem_cons_self
    · exact List.mem_cons_of_mem _ (lookC_mem h)
theorem lookC_of {p : Ct} : ∀ {l : List Ct}, UpK l → p ∈ l → lookC p.1 l = some p.2
  | [], _, h => by cases h
  | q :: l, hu, h => by
    rw [UpK, List.pairwise_cons] at hu
    unfold lookC
    rcases List.mem_cons.1 h with rfl | h
    · rw [if_pos rfl]
    · have := hu.1 p h
      rw [if_neg (by omega)]
      exact lookC_of hu.2 h
theorem cnt_lookC {key : Int} : ∀ {l : List Ct}, UpK l → cnt l key = (lookC key l).getD 0
  | [], _ => rfl
  | p :: l, hu => by
    rw [UpK, List.pairwise_cons] at hu
    rw [cnt_cons, cnt_lookC hu.2, lookC]
    by_cases e : p.1 = key
    · rw [if_pos e, if_pos e, lookC_none (fun q hq => by have := hu.1 q hq; omega)]; simp
    · rw [if_neg e, if_neg e]; omega
theorem lookC_cons (k : Int) (p : Ct) (l : List Ct) : lookC k (p :: l) = if p.1 = k then some p.2 else lookC k l := rfl
theorem lookC_add {key n k : Int} : ∀ {l : List Ct}, UpK l → lookC k (addC key n l) = if k = key then some (cnt l key + n) else lookC k l
  | [], _ => by
    rw [addC, lookC_cons, cnt_nil]
    dsimp only
    by_cases e : k = key
    · rw [if_pos e, if_pos e.symm]; simp
    · rw [if_neg e, if_neg (Ne.symm e)]
  | p :: l, hu => by
    have hu' := hu
    rw [UpK, List.pairwise_cons] at hu
    unfold addC
    split
    · rename_i hp
      rw [lookC_cons, lookC_add hu.2, cnt_cons, lookC_cons]
      by_cases e : k = key
      · rw [if_neg (by omega), if_pos e, if_pos e, if_neg (by omega)]; congr 1; omega
      · rw [if_neg e, if_neg e]
    · split
      · rename_i e
        rw [lookC_cons, cnt_lookC hu', lookC_cons, lookC_cons, if_pos e]
        dsimp only
        by_cases e2 : k = key
        · rw [if_pos (by omega), if_pos e2]; rfl
        · rw [if_neg (by omega), if_neg e2, if_neg (by omega)]
      · rename_i h1 h2
        rw [lookC_cons, cnt_lookC hu', lookC_none (key := key) (fun q hq => by
          rcases List.mem_cons.1 hq with rfl | hq
          · omega
          · have := hu.1 q hq; omega)]
        dsimp only
        by_cases e2 : k = key
        · rw [if_pos (by omega), if_pos e2]; simp
        · rw [if_neg (by omega), if_neg e2]
theorem wf64 {x : Int} (h : I64 x) : (Lit.int .i64 x).wf = true := by
  obtain ⟨h1, h2⟩ := h
  have a : IntKind.i64.min = -9223372036854775808 := by decide
  have b : IntKind.i64.max = 9223372036854775807 := by decide
  simp [Lit.wf, a, b]; omega
/-- The map's datum says of each key what the list says. -/
def SaysC (D : DataW Unit) (m : List Ct) : Prop := ∀ key z, D.atKey (.int .i64 key) z = match lookC key m with | some v => .lit (.int .i64 v) | none => z
/-- Block b is a map of at most n keys, that holds the list m. -/
def MapC (P : Program) (k e : TypeId) (w : World) (b n : Nat) (m : List Ct) : Prop := ∃ D : DataW Unit, w.ownsMap P k (plainElem P e) b n D ∧ IsMap D ∧ SaysC D m
section
variable {P : Program} {k e t : TypeId} {w w' : World} {b n : Nat} {m : List Ct}
theorem MapC.made (w : World) (P : Program) (k e : TypeId) : MapC P k e (w.alloc (.map #[] 0)) w.heap.size 0 [] :=
  ⟨.map [], World.ownsMap_made w P k _, ⟨[], rfl⟩, fun _ _ => rfl⟩
theorem MapC.lt (h : MapC P k e w b n m) : b < w.heap.size := by
  obtain ⟨D, hD, _⟩ := h
  exact hD.lt
theorem MapC.below {B : Nat} (h : MapC P k e w b n m) (hb : Below B w w') (hB : b < B) : MapC P k e w' b n m := by
  obtain ⟨D, ⟨es, clock, h1, h2, h3, h4⟩, hm, hp⟩ := h
  exact ⟨D, ⟨es, clock, by rw [hb.block b hB]; exact h1, h2, h3, h4⟩, hm, hp⟩
theorem MapC.drew (h : MapC P k e w b n m) : MapC P k e w.drew b n m := h
theorem MapC.drewN (h : MapC P k e w b n m) (q : Nat) : MapC P k e (w.drewN q) b n m := h
theorem MapC.alloc (h : MapC P k e w b n m) (o : Obj) : MapC P k e (w.alloc o) b n m := by
  obtain ⟨D, hD, r⟩ := h
  exact ⟨D, hD.alloc o, r⟩
theorem MapC.far (h : MapC P k e w b n m) {p : Addr} (hp : b ≠ p.block) (u : Value) : MapC P k e (w.setCell p u) b n m := by
  obtain ⟨D, hD, r⟩ := h
  exact ⟨D, hD.setCell hp u, r⟩
theorem MapC.mono (h : MapC P k e w b n m) {q : Nat} (hn : n ≤ q) : MapC P k e w b q m := by
  obtain ⟨D, hD, r⟩ := h
  exact ⟨D, hD.mono hn, r⟩
theorem SaysC.at0 {D : DataW Unit} (h : SaysC D m) (hu : UpK m) (key : Int) : D.atKey (.int .i64 key) (.lit (.int .i64 0)) = .lit (.int .i64 (cnt m key)) := by
  rw [h key, cnt_lookC hu]
  cases lookC key m <;> rfl
/-- 'm[k]' at the operation. -/
theorem wpList_mapc_look {ops : Array Oper} {rest : List Oper} {o : Oper} {a : Act} {Q : Exit → Act → World → Prop} (hg : o.guard = none) (mo x : Operand) (hop : o.op = Op.lookup t mo x false)
    (h : MapC P k e w b n m) (hu : UpK m) (K : Keyed P k) (hk : P.underlying k = some (.int .i64)) (he : P.underlying e = some (.int .i64)) (ht : P.underlying t = some (.map k e)) (hz : (zeroValue e).run P w = .ok (.int .i64 0) w) (hmo : a.eval mo = .map (some b)) (key : Int) (hx : a.eval x = .int .i64 key) (hr : I64 key) {v : Int} (hv : cnt m key = v)
    (hK : wpList P ops Q rest (a.put o.dst (.int .i64 v)) w) : wpList P ops Q (o :: rest) a w := by
  obtain ⟨D, hD, hm, hp⟩ := h
  refine wpList_lookup_own_int w hg mo x t hop k e .i64 K ht he hz b n D hmo hD _ _ hx (keyOf_int_mk hk (wf64 hr)) fun c hc _ => ?_
  rw [hp.at0 hu] at hc
  injection hc with hc
  injection hc with _ hc
  rw [← hc, hv]
  exact hK
theorem SaysC.put {D : DataW Unit} (hm : IsMap D) (h : SaysC D m) (hu : UpK m) (key v : Int) : SaysC (D.put (.int .i64 key) (.lit (.int .i64 (cnt m key + v)))) (addC key v m) := by
  intro q z
  rw [lookC_add hu]
  by_cases e : q = key
  · rw [if_pos e, e, atKey_put_same hm (show WideAt.IsKeyLit (.int .i64 key) from trivial)]
  · rw [if_neg e, atKey_put_other (fun h => e (by injection h)), h q z]
/-- 'm[k] += v' at the store. -/
theorem wpList_mapc_put {ops : Array Oper} {rest : List Oper} {o : Oper} {a : Act} {Q : Exit → Act → World → Prop} (hg : o.guard = none) (mo x v : Operand) (hop : o.op = Op.mapUpdate t mo x v)
    (h : MapC P k e w b n m) (hu : UpK m) (K : Keyed P k) (hk : P.underlying k = some (.int .i64)) (he : P.underlying e = some (.int .i64)) (ht : P.underlying t = some (.map k e)) (hn : n < maxLen) (hmo : a.eval mo = .map (some b)) (key u d : Int) (hx : a.eval x = .int .i64 key) (hr : I64 key) (hv : a.eval v = .int .i64 u) (hru : I64 u) (hud : u = cnt m key + d)
    (hK : ∀ w', MapC P k e w' b (n + 1) (addC key d m) → w.grownBy w' (some b) → wpList P ops Q rest (a.put o.dst undef) w') : wpList P ops Q (o :: rest) a w := by
  obtain ⟨D, hD, hmp, hp⟩ := h
  subst hud
  exact wpList_mapUpdate_own w hg mo x v t hop k e K ht (plainElem P e) b n D hmo hD hn (.int .i64 key) (.int .i64 (cnt m key + d)) (.int .i64 key) hx hv (keyOf_int_mk hk (wf64 hr)) (.lit (.int .i64 (cnt m key + d))) [] (plainElem_int he (wf64 hru))
    (fun w' h1 h2 => hK w' ⟨_, h1, hmp.put _ _, hp.put hmp hu key d⟩ h2)
/-- The iterator r of the map b: what has come is o; cnt are still to come. -/
def RanC (P : Program) (k e : TypeId) (w : World) (b r n : Nat) (m o : List Ct) (cnt : Nat) : Prop :=
  ∃ (D : DataW Unit) (left : Lit → Bool), w.ranges P k (plainElem P e) b r n D left cnt ∧ SaysC D m ∧ (∀ s : Ct, s ∈ o ↔ s ∈ m ∧ left (.int .i64 s.1) = false) ∧ o.Pairwise (fun x y => x.1 ≠ y.1) ∧ o.length + cnt ≤ n
section
variable {r cnt : Nat} {o : List Ct}
theorem RanC.kept (h : RanC P k e w b r n m o cnt) {row : Option Nat} (hg : w.grownBy w' row) (hb : some b ≠ row) (hr : some r ≠ row) : RanC P k e w' b r n m o cnt := by
  obtain ⟨D, left, h1, h2⟩ := h
  exact ⟨D, left, h1.kept hg hb hr, h2⟩
theorem RanC.alloc (h : RanC P k e w b r n m o cnt) (ob : Obj) : RanC P k e (w.alloc ob) b r n m o cnt := by
  obtain ⟨D, left, h1, h2⟩ := h
  exact ⟨D, left, h1.alloc ob, h2⟩
theorem RanC.set (h : RanC P k e w b r n m o cnt) {p : Addr} (hb : b ≠ p.block) (hr : r ≠ p.block) (u : Value) : RanC P k e (w.setCell p u) b r n m o cnt :=
  h.kept (row := some p.block) ⟨rfl, rfl, rfl, by simp, fun j _ hj => Below.heap_setCell _ _ _ _ (fun e => hj (by rw [e]))⟩ (fun e => hb (by injection e)) (fun e => hr (by injection e))
theorem RanC.lt (h : RanC P k e w b r n m o cnt) : r < w.heap.size := by
  obtain ⟨D, left, h1, h2⟩ := h
  exact h1.lt
theorem RanC.ne (h : RanC P k e w b r n m o cnt) : r ≠ b := by
  obtain ⟨D, left, h1, h2⟩ := h
  exact h1.ne
theorem RanC.left_eq (h : RanC P k e w b r n m o cnt) : w.rangeLeft b r = cnt := by
  obtain ⟨D, left, h1, h2⟩ := h
  exact h1.left_eq
theorem RanC.room (h : RanC P k e w b r n m o cnt) : o.length + cnt ≤ n := by
  obtain ⟨D, left, h1, h2, h3, h4, h5⟩ := h
  exact h5
end
theorem has_of_saysC {D : DataW Unit} (h : SaysC D m) (key : Int) : has D (.int .i64 key) = (lookC key m).isSome := by
  have hq := h key
  cases hl : lookC key m with
  | none => rw [hl] at hq; rw [has_false_of_atKey (k := .int .i64 key) hq]; rfl
  | some s => rw [hl] at hq; rw [has_true_of_atKey (k := .int .i64 key) hq]; rfl
/-- 'range m'. -/
theorem wpList_mapc_range {ops : Array Oper} {rest : List Oper} {o : Oper} {a : Act} {Q : Exit → Act → World → Prop} (hg : o.guard = none) (mo : Operand) (hop : o.op = Op.range t mo) (h : MapC P k e w b n m) (hu : UpK m) (K : Keyed P k) (ht : P.underlying t = some (.map k e)) (hmo : a.eval mo = .map (some b))
    (hK : ∀ w' cnt, RanC P k e w' b w.heap.size n m [] cnt → w.grownBy w' none → w'.heap.size = w.heap.size + 1 → wpList P ops Q rest (a.put o.dst (.pointer (some ⟨w.heap.size, 0, none⟩))) w') : wpList P ops Q (o :: rest) a w := by
  obtain ⟨D, hD, hmp, hp⟩ := h
  refine wpList_range_own w hg mo t hop k e K ht (plainElem P e) b n D hmo hD fun w' h1 h2 h3 => hK w' _ ⟨D, has D, h1, hp, fun s => ?_, List.Pairwise.nil, by simpa using hD.size_le⟩ h2 h3
  rw [has_of_saysC hp]
  constructor
  · intro h; cases h
  · rintro ⟨h4, h5⟩
    rw [lookC_of hu h4] at h5
    cases h5
/-- The step. -/
theorem wpList_mapc_next {ops : Array Oper} {rest : List Oper} {o : Oper} {a : Act} {Q : Exit → Act → World → Prop} (hg : o.guard = none) (it : Operand) (hop : o.op = Op.next it false) (K : Keyed P k) (hk : P.underlying k = some (.int .i64)) (he : P.underlying e = some (.int .i64)) (hu : UpK m) {r cnt : Nat} {out : List Ct}
    (hit : a.eval it = .pointer (some ⟨r, 0, none⟩)) (h : RanC P k e w b r n m out cnt)
    (hDone : (∀ s, s ∈ out ↔ s ∈ m) → out.Pairwise (fun x y => x.1 ≠ y.1) → wpList P ops Q rest (a.put o.dst (.tuple #[.bool false])) w)
    (hMore : ∀ (x c : Int) (w' : World) (cnt' : Nat), (x, c) ∈ m → RanC P k e w' b r n m (out ++ [(x, c)]) cnt' → cnt' < cnt → w.grownBy w' (some r) → w'.heap.size = w.heap.size →
      (Instr.entry (.pointer (some ⟨r, 0, none⟩))).run P w' = .ok (.tuple #[.int .i64 x, .int .i64 c]) w' → wpList P ops Q rest (a.put o.dst (.tuple #[.bool true, .int .i64 x, .int .i64 c])) w') : wpList P ops Q (o :: rest) a w := by
  obtain ⟨D, left, h1, h2, h3, h4, h5⟩ := h
  refine wpList_next_ranges_ii w hg it hop k e .i64 .i64 K hk he b r n D left cnt hit h1 ?_ ?_
  · intro _ hl
    exact hDone (fun s => by rw [h3 s]; exact ⟨fun h => h.1, fun h => ⟨h, hl _⟩⟩) h4
  · intro x c w' cnt' _ _ hlk hat hrg hlt hgr hsz hen
    have hq := h2 x
    have hl : lookC x m = some c := by
      cases hl : lookC x m with
      | none =>
        rw [hl] at hq
        have e2 := hat (.map [])
        rw [hq] at e2
        cases e2
      | some s =>
        rw [hl] at hq
        have e2 := hat (.map [])
        rw [hq] at e2
        injection e2 with e2
        injection e2 with _ e2
        rw [e2]
    have hcm := lookC_mem hl
    refine hMore x c w' cnt' hcm ⟨D, _, hrg, h2, fun s => ?_, ?_, ?_⟩ hlt hgr hsz hen
    · rw [List.mem_append, List.mem_singleton, h3 s]
      constructor
      · rintro (⟨a1, a2⟩ | rfl)
        · exact ⟨a1, by rw [a2]; rfl⟩
        · exact ⟨hcm, by rw [WideAt.sameKey_self (show WideAt.IsKeyLit (.int .i64 x) from trivial)]; simp⟩
      · rintro ⟨a1, a2⟩
        cases hs : left (.int .i64 s.1) with
        | false => exact .inl ⟨a1, rfl⟩
        | true =>
          rw [hs] at a2
          right
          by_cases e : s.1 = x
          · have h7 := lookC_of hu a1
            rw [e, hl] at h7
            injection h7 with h7
            exact Prod.ext e h7.symm
          · rw [sameKey_ne (fun h => e (by injection h))] at a2
            simp at a2
    · rw [List.pairwise_append]
      refine ⟨h4, List.pairwise_singleton _ _, fun s hs q hqq => ?_⟩
      rw [List.mem_singleton] at hqq
      subst hqq
      intro e
      have := ((h3 s).1 hs).2
      rw [e, hlk] at this
      cases this
    · rw [List.length_append]
      simp
      omega
end
/-- Behind the sort: the counters that the map held. -/
theorem sortedC_is {o o' m : List Ct} (hp : o'.Perm o) (hs : o'.Pairwise (fun a b => a.1 ≤ b.1)) (hd : o.Pairwise (fun x y => x.1 ≠ y.1)) (hm : ∀ s, s ∈ o ↔ s ∈ m) (hu : UpK m) : o' = m := by
  have hd' : o'.Pairwise (fun x y => x.1 ≠ y.1) := hp.symm.pairwise hd (fun h e => h e.symm)
  have hu' : UpK o' := (hs.and hd').imp fun {a b} ⟨h1, h2⟩ => by omega
  have hmm : ∀ s, s ∈ o' ↔ s ∈ m := fun s => by rw [hp.mem_iff, hm s]
  refine upk_ext hu' hu (fun k => ?_) (fun k => ?_)
  · simp only [List.mem_map]
    constructor
    · rintro ⟨s, h1, h2⟩; exact ⟨s, (hmm s).1 h1, h2⟩
    · rintro ⟨s, h1, h2⟩; exact ⟨s, (hmm s).2 h1, h2⟩
  · rw [cnt_lookC hu', cnt_lookC hu]
    congr 1
    cases h1 : lookC k m with
    | some v => exact lookC_of hu' ((hmm _).2 (lookC_mem h1))
    | none =>
      cases h2 : lookC k o' with
      | none => rfl
      | some v => have := lookC_of hu ((hmm _).1 (lookC_mem h2)); rw [h1] at this; cases this
end Go.Proofs.YtfopihlbdceepaaGreat
