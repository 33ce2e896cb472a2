/- Proves the parts of the claim that its last text joins: Open2, Rule, TableP, FewP, Dk5, EqP. Conditions: those that each theorem names. -/
import Derived.Test.YtjpbjghdplbdcaaGreatDoorM01
import Derived.Deep.Slices
import Derived.Deep.Fields
import Derived.Test.YtjpbjghdplbdcaaGreatDoorM04
import Derived.Test.YtjpbjghdplbdcaaGreatDoorProg
import Derived.WalkKit
import Derived.WalkSpells
import Derived.Deep.QuietTactic
import Derived.BigQuiet
section
namespace Go.Proofs.YtjpbjghdplbdcaaGreatDoor
open Go.ChangeShapes Go.WideShapes Go.ChangeAt Go.RowKit Go.Deep
def prs (ps : List (Int × Int)) : List Value := ps.flatMap fun p => [.int .i64 p.1, .int .i64 p.2]
theorem flat_at {α : Type} {f : α → List Value} {size : Nat} (hf : ∀ d, (f d).length = size) : ∀ {ds : List α} {k j : Nat} {d : α} {u : Value}, ds[k]? = some d → (f d)[j]? = some u → (ds.flatMap f)[k * size + j]? = some u
  | [], k, j, d, u, h, _ => by simp at h
  | d0 :: ds, 0, j, d, u, h, hu => by
    simp only [List.getElem?_cons_zero, Option.some.injEq] at h
    subst h
    rw [List.flatMap_cons, Nat.zero_mul, Nat.zero_add, List.getElem?_append_left (List.getElem?_eq_some_iff.1 hu).1]
    exact hu
  | d0 :: ds, k + 1, j, d, u, h, hu => by
    rw [List.getElem?_cons_succ] at h
    rw [List.flatMap_cons, List.getElem?_append_right (by rw [hf, Nat.succ_mul]; omega), hf, show (k + 1) * size + j - size = k * size + j by rw [Nat.succ_mul]; omega]
    exact flat_at hf h hu
theorem flat_len {α : Type} {f : α → List Value} {size : Nat} (hf : ∀ d, (f d).length = size) : ∀ ds : List α, (ds.flatMap f).length = ds.length * size
  | [] => by simp
  | d :: ds => by rw [List.flatMap_cons, List.length_append, hf, flat_len hf ds, List.length_cons, Nat.succ_mul]; omega
theorem flat_set {α : Type} {f : α → List Value} {size : Nat} (hf : ∀ d, (f d).length = size) : ∀ (ds : List α) (k j : Nat) (d d' : α) (u : Value), ds[k]? = some d → j < size → (f d).set j u = f d' → (ds.flatMap f).set (k * size + j) u = (ds.set k d').flatMap f
  | [], k, j, d, d', u, h, _, _ => by simp at h
  | d0 :: ds, 0, j, d, d', u, h, hj, hu => by
    simp only [List.getElem?_cons_zero, Option.some.injEq] at h
    subst h
    rw [List.flatMap_cons, Nat.zero_mul, Nat.zero_add, List.set_append_left _ _ (by rw [hf]; exact hj), hu]
    rfl
  | d0 :: ds, k + 1, j, d, d', u, h, hj, hu => by
    rw [List.getElem?_cons_succ] at h
    rw [List.flatMap_cons, List.set_append_right _ _ (by rw [hf, Nat.succ_mul]; omega), hf, show (k + 1) * size + j - size = k * size + j by rw [Nat.succ_mul]; omega, flat_set hf ds k j d d' u h hj hu]
    rfl
theorem prs_len (ps : List (Int × Int)) : (prs ps).length = ps.length * 2 := flat_len (f := fun p : Int × Int => [Value.int .i64 p.1, .int .i64 p.2]) (size := 2) (fun _ => rfl) ps
theorem prs_at0 {ps : List (Int × Int)} {k : Nat} {p : Int × Int} (h : ps[k]? = some p) : (prs ps)[k * 2]? = some (.int .i64 p.1) := by
  have := flat_at (f := fun p : Int × Int => [Value.int .i64 p.1, .int .i64 p.2]) (size := 2) (fun _ => rfl) (j := 0) (u := .int .i64 p.1) h rfl
  exact this
theorem prs_at1 {ps : List (Int × Int)} {k : Nat} {p : Int × Int} (h : ps[k]? = some p) : (prs ps)[k * 2 + 1]? = some (.int .i64 p.2) :=
  flat_at (f := fun p : Int × Int => [Value.int .i64 p.1, .int .i64 p.2]) (size := 2) (fun _ => rfl) (j := 1) h rfl
theorem prs_append (a b : List (Int × Int)) : prs (a ++ b) = prs a ++ prs b := by simp [prs]
theorem prs_one (ps : List (Int × Int)) : ∀ u ∈ prs ps, u.oneCell' = true := by
  intro u hu
  simp only [prs, List.mem_flatMap] at hu
  obtain ⟨p, _, hp⟩ := hu
  simp only [List.mem_cons, List.mem_nil_iff, or_false] at hp
  rcases hp with rfl | rfl <;> rfl
theorem prs_set1 {ps : List (Int × Int)} {k : Nat} {p : Int × Int} (h : ps[k]? = some p) (x : Int) : (prs ps).set (k * 2 + 1) (.int .i64 x) = prs (ps.set k (p.1, x)) :=
  flat_set (f := fun p : Int × Int => [Value.int .i64 p.1, .int .i64 p.2]) (size := 2) (fun _ => rfl) ps k 1 p (p.1, x) _ h (by decide) rfl
def bools (bs : List Bool) : List Value := bs.map Value.bool
theorem bools_at {bs : List Bool} {j : Nat} {x : Bool} (h : bs[j]? = some x) : (bools bs)[j]? = some (.bool x) := by simp [bools, h]
theorem Sl.blen {w : World} {B : Nat} {A : Option Addr} {n c : Nat} {bs : List Bool} (h : Sl w B 1 A n c (bools bs)) : bs.length = n := by have := h.len; simpa [bools] using this
theorem Sl.plen {w : World} {B : Nat} {A : Option Addr} {n c : Nat} {ps : List (Int × Int)} (h : Sl w B 2 A n c (prs ps)) : ps.length = n := by have := h.len; rw [prs_len] at this; omega
theorem Sl.bcell {w : World} {B : Nat} {A : Option Addr} {n c : Nat} {zs : List Bool} (h : Sl w B 1 A n c (bools zs)) {j : Nat} (hj : j < n) :
    ∃ ad x, A = some ad ∧ ad.block < B ∧ zs[j]? = some x ∧ w.cell? (ad.add j) = some (.bool x) := by
  have hl := h.blen
  have hx : zs[j]? = some (zs[j]'(by omega)) := List.getElem?_eq_getElem (by omega)
  obtain ⟨ad, e, hb, hc⟩ := h.cell (bools_at hx)
  exact ⟨ad, _, e, hb, hx, hc⟩
theorem Sl.pcell {w : World} {B : Nat} {A : Option Addr} {n c : Nat} {ps : List (Int × Int)} (h : Sl w B 2 A n c (prs ps)) {j : Nat} (hj : j < n) :
    ∃ ad p, A = some ad ∧ ad.block < B ∧ ps[j]? = some p ∧ w.cell? (ad.add (j * 2)) = some (.int .i64 p.1) ∧ w.cell? ⟨(ad.add (j * 2)).block, (ad.add (j * 2)).off + 1, none⟩ = some (.int .i64 p.2) := by
  have hl := h.plen
  have hx : ps[j]? = some (ps[j]'(by omega)) := List.getElem?_eq_getElem (by omega)
  obtain ⟨ad, e, hb, hc⟩ := h.cell (prs_at0 hx)
  obtain ⟨ad2, e2, _, hc2⟩ := h.cell (prs_at1 hx)
  rw [e] at e2
  injection e2 with e2
  subst e2
  exact ⟨ad, _, e, hb, hx, hc, by rw [← add_add] at hc2; exact hc2⟩

section
variable {H : Type} {enc : TypeId × Value → H} {P : Program} {w : World} {base : Nat} {sp : Nat → Bool} {held : Bool}
end
end Go.Proofs.YtjpbjghdplbdcaaGreatDoor
end
section
namespace Go.Proofs.YtjpbjghdplbdcaaGreatDoor
open Go.RowKit
abbrev Rl := ByteArray × Int × Int
def rlV (r : Rl) : List Value := [.string r.1, .int .i64 r.2.1, .int .i64 r.2.2]
def rls (rs : List Rl) : List Value := rs.flatMap rlV
theorem rls_len (rs : List Rl) : (rls rs).length = rs.length * 3 := flat_len (f := rlV) (size := 3) (fun _ => rfl) rs
theorem rls_at0 {rs : List Rl} {k : Nat} {r : Rl} (h : rs[k]? = some r) : (rls rs)[k * 3]? = some (.string r.1) := flat_at (f := rlV) (size := 3) (fun _ => rfl) (j := 0) (u := .string r.1) h rfl
theorem rls_at1 {rs : List Rl} {k : Nat} {r : Rl} (h : rs[k]? = some r) : (rls rs)[k * 3 + 1]? = some (.int .i64 r.2.1) := flat_at (f := rlV) (size := 3) (fun _ => rfl) (j := 1) h rfl
theorem rls_at2 {rs : List Rl} {k : Nat} {r : Rl} (h : rs[k]? = some r) : (rls rs)[k * 3 + 2]? = some (.int .i64 r.2.2) := flat_at (f := rlV) (size := 3) (fun _ => rfl) (j := 2) h rfl
theorem rls_one (rs : List Rl) : ∀ u ∈ rls rs, u.oneCell' = true := by
  intro u hu
  simp only [rls, List.mem_flatMap, rlV] at hu
  obtain ⟨p, _, hp⟩ := hu
  simp only [List.mem_cons, List.mem_nil_iff, or_false] at hp
  rcases hp with rfl | rfl | rfl <;> rfl
theorem Sl.rlen {w : World} {B : Nat} {A : Option Addr} {n c : Nat} {rs : List Rl} (h : Sl w B 3 A n c (rls rs)) : rs.length = n := by have := h.len; rw [rls_len] at this; omega
theorem Sl.rcell {w : World} {B : Nat} {A : Option Addr} {n c : Nat} {rs : List Rl} (h : Sl w B 3 A n c (rls rs)) {j : Nat} (hj : j < n) :
    ∃ ad r, A = some ad ∧ ad.block < B ∧ rs[j]? = some r ∧ w.cell? (ad.add (j * 3)) = some (.string r.1) ∧ w.cell? ⟨(ad.add (j * 3)).block, (ad.add (j * 3)).off + 1, none⟩ = some (.int .i64 r.2.1) ∧ w.cell? ⟨(ad.add (j * 3)).block, (ad.add (j * 3)).off + 2, none⟩ = some (.int .i64 r.2.2) := by
  have hl := h.rlen
  have hx : rs[j]? = some (rs[j]'(by omega)) := List.getElem?_eq_getElem (by omega)
  obtain ⟨ad, e, hb, hc⟩ := h.cell (rls_at0 hx)
  obtain ⟨ad1, e1, _, hc1⟩ := h.cell (rls_at1 hx)
  obtain ⟨ad2, e2, _, hc2⟩ := h.cell (rls_at2 hx)
  rw [e] at e1 e2
  injection e1 with e1
  injection e2 with e2
  subst e1
  subst e2
  refine ⟨ad, _, e, hb, hx, hc, ?_, ?_⟩
  · rw [← add_add] at hc1; exact hc1
  · rw [← add_add] at hc2; exact hc2
abbrev Sr (w : World) (A : Option Addr) (n c : Nat) (rs : List Rl) : Prop := Sl w w.heap.size 3 A n c (rls rs)
end Go.Proofs.YtjpbjghdplbdcaaGreatDoor
end
section
namespace Go.Proofs.YtjpbjghdplbdcaaGreatDoor
def faultTo (f : Nat → Int) : Nat → Int
  | 0 => 0
  | k + 1 => if faultTo f k = 0 then f k else faultTo f k
theorem faultTo_bad {f : Nat → Int} {k : Nat} {E : Int} (h : faultTo f k = 0) (hs : f k = E) (hE : E ≠ 0) : ∀ m, k < m → faultTo f m = E
  | 0, hm => by omega
  | m + 1, hm => by
    by_cases e : k = m
    · subst e; rw [faultTo, if_pos h, hs]
    · have ih := faultTo_bad h hs hE m (by omega)
      rw [faultTo, ih, if_neg hE]
theorem faultTo_next {f : Nat → Int} {k : Nat} (h : faultTo f k = 0) (hs : f k = 0) : faultTo f (k + 1) = 0 := by rw [faultTo, if_pos h, hs]
theorem faultTo_all {f : Nat → Int} : ∀ m, faultTo f m = 0 → ∀ k, k < m → f k = 0
  | 0, _, k, hk => by omega
  | m + 1, h, k, hk => by
    rw [faultTo] at h
    by_cases e : faultTo f m = 0
    · rw [if_pos e] at h
      by_cases ek : k = m
      · subst ek; exact h
      · exact faultTo_all m e k (by omega)
    · rw [if_neg e] at h; exact absurd h e
def tabBad (W : Int) (n : Nat) : Prop := W < 1 ∨ 32 < W ∨ n < 1 ∨ 4 < n
instance (W : Int) (n : Nat) : Decidable (tabBad W n) := by unfold tabBad; infer_instance
end Go.Proofs.YtjpbjghdplbdcaaGreatDoor
end
section
namespace Go.Proofs.YtjpbjghdplbdcaaGreatDoor
abbrev Ct := Int × Int
abbrev UpK (l : List Ct) : Prop := l.Pairwise fun a b => a.1 < b.1
def cAt (l : List Ct) (i : Nat) : Ct := l.getD i (0, 0)
theorem cAt_of {l : List Ct} {i : Nat} {p : Ct} (h : l[i]? = some p) : cAt l i = p := by simp [cAt, List.getD, h]
def ctStep (l : List Ct) (i : Nat) : Int := if (cAt l i).2 < 1 ∨ 1000000000000 < (cAt l i).2 then 1 else if i > 0 ∧ (cAt l i).1 ≤ (cAt l (i - 1)).1 then 3 else 0
def fwBad (K L : Int) : Prop := K < 1 ∨ 16 < K ∨ L < 0 ∨ 1000000000000 < L
instance (K L : Int) : Decidable (fwBad K L) := by unfold fwBad; infer_instance
def fwErr (K L : Int) (n : Nat) (l : List Ct) : Int := if fwBad K L then 1 else if K < n then 2 else faultTo (ctStep l) n
structure FwOk (K L : Int) (n : Nat) (l : List Ct) : Prop where
  k1 : 1 ≤ K
  k2 : K ≤ 16
  l1 : 0 ≤ L
  l2 : L ≤ 1000000000000
  nk : (n : Int) ≤ K
  up : UpK l
  cnt : ∀ p ∈ l, 1 ≤ p.2 ∧ p.2 ≤ 1000000000000
theorem fwErr_ok {K L : Int} {n : Nat} {l : List Ct} (hl : l.length = n) (h : fwErr K L n l = 0) : FwOk K L n l := by
  unfold fwErr at h
  by_cases h1 : fwBad K L
  · rw [if_pos h1] at h; omega
  · rw [if_neg h1] at h
    by_cases h2 : K < n
    · rw [if_pos h2] at h; omega
    · rw [if_neg h2] at h
      have h3 := faultTo_all n h
      have hd : ∀ i, i < n → 1 ≤ (cAt l i).2 ∧ (cAt l i).2 ≤ 1000000000000 := by
        intro i hi
        have := h3 i hi
        unfold ctStep at this
        by_cases hc : (cAt l i).2 < 1 ∨ 1000000000000 < (cAt l i).2
        · rw [if_pos hc] at this; omega
        · omega
      have hs : ∀ i, i + 1 < n → (cAt l i).1 < (cAt l (i + 1)).1 := by
        intro i hi
        have := h3 (i + 1) hi
        have hd' := hd (i + 1) hi
        unfold ctStep at this
        rw [if_neg (by omega), Nat.add_sub_cancel] at this
        by_cases hc : i + 1 > 0 ∧ (cAt l (i + 1)).1 ≤ (cAt l i).1
        · rw [if_pos hc] at this; omega
        · omega
      have hlt : ∀ d i, i + d + 1 < n → (cAt l i).1 < (cAt l (i + d + 1)).1 := by
        intro d
        induction d with
        | zero => exact fun i hi => hs i hi
        | succ d ih => intro i hi; have a := ih i (by omega); have b := hs (i + d + 1) (by omega); exact Int.lt_trans a b
      unfold fwBad at h1
      refine ⟨by omega, by omega, by omega, by omega, by omega, ?_, fun p hp => ?_⟩
      · rw [UpK, List.pairwise_iff_getElem]
        intro i j hi hj hij
        have := hlt (j - i - 1) i (by omega)
        rw [show i + (j - i - 1) + 1 = j by omega, cAt_of (List.getElem?_eq_getElem hi), cAt_of (List.getElem?_eq_getElem hj)] at this
        exact this
      · obtain ⟨i, hi⟩ := List.getElem?_of_mem hp
        have := hd i (by rw [← hl]; exact (List.getElem?_eq_some_iff.1 hi).1)
        rwa [cAt_of hi] at this
def addC (key n : Int) : List Ct → List Ct
  | [] => [(key, n)]
  | p :: l => if p.1 < key then p :: addC key n l else if p.1 = key then (p.1, p.2 + n) :: l else (key, n) :: p :: l
def cnt (l : List Ct) (key : Int) : Int := ((l.filter fun p => p.1 == key).map (·.2)).sum
theorem cnt_nil (key : Int) : cnt [] key = 0 := rfl
theorem cnt_cons (p : Ct) (l : List Ct) (key : Int) : cnt (p :: l) key = (if p.1 = key then p.2 else 0) + cnt l key := by
  unfold cnt
  rw [List.filter_cons]
  by_cases e : p.1 = key
  · rw [if_pos (by simpa using e), if_pos e]; simp
  · rw [if_neg (by simpa using e), if_neg e]; simp
theorem addC_keys (key n : Int) : ∀ (l : List Ct) (k : Int), k ∈ (addC key n l).map (·.1) ↔ k = key ∨ k ∈ l.map (·.1)
  | [], k => by simp [addC]
  | p :: l, k => by
    unfold addC
    split
    · rw [List.map_cons, List.mem_cons, addC_keys key n l k, List.map_cons, List.mem_cons]
      constructor
      · rintro (h | h | h) <;> simp [h]
      · rintro (h | h | h) <;> simp [h]
    · split
      · rename_i e
        subst e
        simp
      · simp
theorem addC_len (key n : Int) : ∀ l : List Ct, l.length ≤ (addC key n l).length ∧ (addC key n l).length ≤ l.length + 1
  | [] => by simp [addC]
  | p :: l => by
    unfold addC
    have := addC_len key n l
    split
    · simp; omega
    · split <;> simp
def lessC (d : Int) (l : List Ct) : List Ct := (l.filter fun p => decide (d < p.2)).map fun p => (p.1, p.2 - d)
end Go.Proofs.YtjpbjghdplbdcaaGreatDoor
end
section
namespace Go.Proofs.YtjpbjghdplbdcaaGreatDoor
open Go.RowKit
structure DSt where
  lost : Int
  ctrs : List Ct
  rules : List Rl
  seen : Int
  items : List Int
  nums : List Int
abbrev DT : TypeId := 50
abbrev deskV (lost : Int) (C R : Value) (seen : Int) (I N : Value) : Array Value := #[.int .i64 3, .int .i64 lost, C, R, .int .i64 3, .int .i64 seen, I, .int .i64 3, N]
def Off (w : World) (g : Nat) (A : Option Addr) (ty : TypeId) : Prop := ∀ b, blockOf A = some b → b ≠ g ∧ ∃ cs fz, w.heap[b]? = some (.cells cs ty fz)
theorem Off.of {g base e size n c : Nat} {w : World} {A : Option Addr} {xs : List Value} (h : Own w base e size A n c xs) (hg : g < base) : Off w g A e := by
  intro b hb
  refine ⟨by have := (h.blk hb).1; omega, ?_⟩
  rcases h with ⟨_, h⟩
  rcases h with h | h
  · obtain ⟨h, _⟩ := h
    injection h with h
    rw [h] at hb
    cases hb
  · obtain ⟨g', cap, cur, hv, hk, h⟩ := h
    injection hv with hv
    rw [hv] at hb
    injection hb with hb
    subst hb
    exact ⟨_, _, h.1⟩
theorem Off.on {w w' : World} {g : Nat} {A : Option Addr} {ty : TypeId} (h : Off w g A ty) (hb : Below w.heap.size w w') : Off w' g A ty := fun b hA => by
  obtain ⟨h1, cs, fz, h2⟩ := h b hA
  exact ⟨h1, cs, fz, (hb.block b (Array.getElem?_eq_some_iff.1 h2).1).trans h2⟩
theorem Off.beside {w w' : World} {g : Nat} {A : Option Addr} {ty : TypeId} (h : Off w g A ty) (hg : w.grownBy w' (some g)) : Off w' g A ty := fun b hA => by
  obtain ⟨h1, cs, fz, h2⟩ := h b hA
  exact ⟨h1, cs, fz, (hg.block b (Array.getElem?_eq_some_iff.1 h2).1 (fun e => h1 (by injection e))).trans h2⟩
def DeskAt (w : World) (g : Nat) (s : DSt) : Prop := ∃ Ac nc cc Ar nr cr Ai ni ci An nn cn,
  Blk w g DT (deskV s.lost (.slice Ac nc cc) (.slice Ar nr cr) s.seen (.slice Ai ni ci) (.slice An nn cn)) ∧
  (Sl w w.heap.size 2 Ac nc cc (prs s.ctrs) ∧ Off w g Ac 128) ∧ (Sr w Ar nr cr s.rules ∧ Off w g Ar 132) ∧ (Si w Ai ni ci s.items ∧ Off w g Ai 3) ∧ (Si w An nn cn s.nums ∧ Off w g An 3)
section
variable {w w' : World} {g : Nat} {s : DSt}
theorem DeskAt.lt (h : DeskAt w g s) : g < w.heap.size := by obtain ⟨_, _, _, _, _, _, _, _, _, _, _, _, hb, _⟩ := h; exact hb.lt
theorem DeskAt.on (h : DeskAt w g s) (hb : Below w.heap.size w w') : DeskAt w' g s := by
  obtain ⟨Ac, nc, cc, Ar, nr, cr, Ai, ni, ci, An, nn, cn, hg, ⟨h1, o1⟩, ⟨h2, o2⟩, ⟨h3, o3⟩, ⟨h4, o4⟩⟩ := h
  exact ⟨Ac, nc, cc, Ar, nr, cr, Ai, ni, ci, An, nn, cn, hg.below hb hg.lt, ⟨h1.on hb, o1.on hb⟩, ⟨h2.on hb, o2.on hb⟩, ⟨h3.on hb, o3.on hb⟩, ⟨h4.on hb, o4.on hb⟩⟩
theorem Sl.beside {size n c : Nat} {A : Option Addr} {ty : TypeId} {xs : List Value} (h : Sl w w.heap.size size A n c xs) (ho : Off w g A ty) (hg : w.grownBy w' (some g)) : Sl w' w'.heap.size size A n c xs := by
  refine ⟨h.len, h.cap, h.max, h.nul, fun hn => ?_⟩
  obtain ⟨ad, e, hb, hc⟩ := h.at_ hn
  have hne : ad.block ≠ g := (ho ad.block (by rw [e]; rfl)).1
  exact ⟨ad, e, Nat.lt_of_lt_of_le hb hg.size, fun j u hu => hg.cell (hc j u hu) (by rw [add_block]; exact fun e => hne (by injection e))⟩
theorem DeskAt.mk' {lost seen : Int} {ctrs : List Ct} {rules : List Rl} {items nums : List Int} {Ac Ar Ai An : Option Addr} {nc cc nr cr ni ci nn cn : Nat} (hg : w.grownBy w' (some g))
    (hb : Blk w' g DT (deskV lost (.slice Ac nc cc) (.slice Ar nr cr) seen (.slice Ai ni ci) (.slice An nn cn)))
    (h1 : Sl w w.heap.size 2 Ac nc cc (prs ctrs)) (o1 : Off w g Ac 128) (h2 : Sr w Ar nr cr rules) (o2 : Off w g Ar 132) (h3 : Si w Ai ni ci items) (o3 : Off w g Ai 3) (h4 : Si w An nn cn nums) (o4 : Off w g An 3) :
    DeskAt w' g ⟨lost, ctrs, rules, seen, items, nums⟩ :=
  ⟨Ac, nc, cc, Ar, nr, cr, Ai, ni, ci, An, nn, cn, hb, ⟨h1.beside o1 hg, o1.beside hg⟩, ⟨h2.beside o2 hg, o2.beside hg⟩, ⟨h3.beside o3 hg, o3.beside hg⟩, ⟨h4.beside o4 hg, o4.beside hg⟩⟩
def DeskO (o : Obj) : Prop := ∃ cs fz, o = .cells cs 128 fz ∨ o = .cells cs 132 fz ∨ o = .cells cs 3 fz
theorem Sl.apart {size n c : Nat} {A : Option Addr} {xs : List Value} {ty : TypeId} (h : Sl w w.heap.size size A n c xs) (ho : Off w g A ty) (hk : ∀ (k : Nat) (cs : Array Value) (fz : Nat × Nat), w.heap[k]? = some (Obj.cells cs ty fz) → w'.heap[k]? = some (Obj.cells cs ty fz)) (hz : w.heap.size ≤ w'.heap.size) :
    Sl w' w'.heap.size size A n c xs ∧ Off w' g A ty := by
  refine ⟨⟨h.len, h.cap, h.max, h.nul, fun hn => ?_⟩, fun b hA => ?_⟩
  · obtain ⟨ad, e, hb, hc⟩ := h.at_ hn
    obtain ⟨_, cs, fz, h2⟩ := ho ad.block (by rw [e]; rfl)
    refine ⟨ad, e, Nat.lt_of_lt_of_le hb hz, fun j u hu => ?_⟩
    rw [← hc j u hu]
    exact World.cell?_of_block (by rw [add_block, hk _ _ _ h2, h2])
  · obtain ⟨h1, cs, fz, h2⟩ := ho b hA
    exact ⟨h1, cs, fz, hk _ _ _ h2⟩
theorem DeskAt.apart (h : DeskAt w g s) (hg : ∀ cs : Array Value, w.heap[g]? = some (Obj.cells cs DT (0, 0)) → w'.heap[g]? = some (Obj.cells cs DT (0, 0))) (hk : ∀ (k : Nat) (o : Obj), w.heap[k]? = some o → DeskO o → w'.heap[k]? = some o) (hz : w.heap.size ≤ w'.heap.size) : DeskAt w' g s := by
  obtain ⟨Ac, nc, cc, Ar, nr, cr, Ai, ni, ci, An, nn, cn, hb, ⟨h1, o1⟩, ⟨h2, o2⟩, ⟨h3, o3⟩, ⟨h4, o4⟩⟩ := h
  exact ⟨Ac, nc, cc, Ar, nr, cr, Ai, ni, ci, An, nn, cn, hg _ hb, h1.apart o1 (fun k cs fz e => hk k _ e ⟨cs, fz, .inl rfl⟩) hz, h2.apart o2 (fun k cs fz e => hk k _ e ⟨cs, fz, .inr (.inl rfl)⟩) hz,
    h3.apart o3 (fun k cs fz e => hk k _ e ⟨cs, fz, .inr (.inr rfl)⟩) hz, h4.apart o4 (fun k cs fz e => hk k _ e ⟨cs, fz, .inr (.inr rfl)⟩) hz⟩
theorem DeskAt.past {ob : Nat} {z : ByteArray} (h : DeskAt w g s) (hB : Blk w ob 9 #[.string z]) (hne : g ≠ ob) (v : Value) : DeskAt (w.setCell ⟨ob, 0, none⟩ v) g s := by
  refine h.apart (fun cs e => (Below.heap_setCell w ⟨ob, 0, none⟩ v g hne).trans e) (fun k o e ho => ?_) (by simp)
  refine (Below.heap_setCell w ⟨ob, 0, none⟩ v k (fun hk => ?_)).trans e
  subst hk
  have e2 := e.symm.trans hB
  injection e2 with e2
  subst e2
  obtain ⟨cs, fz, h | h | h⟩ := ho
  · injection h with _ h; exact absurd h (by decide)
  · injection h with _ h; exact absurd h (by decide)
  · injection h with _ h; exact absurd h (by decide)
end
end Go.Proofs.YtjpbjghdplbdcaaGreatDoor
end
section
namespace Go.Proofs.YtjpbjghdplbdcaaGreatDoor
open Go.RowKit
def same (xs ys : List Int) : Bool := decide (xs = ys)
theorem same_yes {xs ys : List Int} (h : xs = ys) : same xs ys = true := by simp [same, h]
theorem same_no {xs ys : List Int} (h : xs ≠ ys) : same xs ys = false := by simp [same, h]
theorem quiet_mk {w w' : World} {v v' : Value} {q : Nat} (h : v' = v) (hw : w' = w.drewN q) : Quiet w v (.returned v') w' := ⟨by rw [h], q, hw⟩
theorem take_next {xs ys : List Int} {k : Nat} {x y : Int} (h : xs.take k = ys.take k) (hx : xs[k]? = some x) (hy : ys[k]? = some y) (e : x = y) : xs.take (k + 1) = ys.take (k + 1) := by
  rw [List.take_add_one, List.take_add_one, h, hx, hy, e]
theorem differ_at {xs ys : List Int} {k : Nat} {x y : Int} (hx : xs[k]? = some x) (hy : ys[k]? = some y) (e : ¬ x = y) : xs ≠ ys := by
  rintro rfl; rw [hx] at hy; exact e (by injection hy)

end Go.Proofs.YtjpbjghdplbdcaaGreatDoor
end
