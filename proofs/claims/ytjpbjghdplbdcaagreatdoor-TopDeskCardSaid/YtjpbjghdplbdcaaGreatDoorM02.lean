/- Proves the parts of the claim that its last text joins: SplitP, App, Dk1. Conditions: those that each theorem names. -/
import Derived.Test.YtjpbjghdplbdcaaGreatDoorM01
import Derived.Lib.SplitLaws
import Derived.Maps.AppendAt
import Derived.RegionTactic
import Derived.Tactics2
import Derived.WalkLawsBesides
import Derived.BigQuiet
section
namespace Go.Proofs.YtjpbjghdplbdcaaGreatDoor
open Go.Lib
def pieces (c : UInt8) : List UInt8 → List (List UInt8)
  | [] => [[]]
  | b :: l => if b = c then [] :: pieces c l else (b :: (pieces c l).headD []) :: (pieces c l).tail
theorem pieces_ne (c : UInt8) : ∀ l, pieces c l ≠ []
  | [] => by simp [pieces]
  | b :: l => by unfold pieces; split <;> simp
theorem index_cons_eq (c : UInt8) (l : List UInt8) : index (c :: l) [c] = 0 := by rw [index]; simp [List.isPrefixOf]
theorem index_cons_ne {b c : UInt8} (l : List UInt8) (h : b ≠ c) : index (b :: l) [c] = if index l [c] = -1 then -1 else index l [c] + 1 := by
  have hp : ([c] : List UInt8).isPrefixOf (b :: l) = false := by simp [List.isPrefixOf, Ne.symm h]
  rw [index, hp]; simp
theorem split_is (c : UInt8) : ∀ l, split l [c] = pieces c l
  | [] => by
    have h : index ([] : List UInt8) [c] = -1 := by simp [index]
    unfold split
    rw [count_miss h]; rfl
  | b :: l => by
    have ih := split_is c l
    by_cases e : b = c
    · subst e
      unfold split pieces
      rw [if_pos rfl, count_cons_eq, Nat.add_comm, splitK, index_cons_eq]
      simp only [Int.toNat_zero, List.length_singleton, Nat.zero_add, List.take_zero, List.drop_succ_cons, List.drop_zero]
      rw [← ih]; rfl
    · unfold split pieces
      rw [if_neg e, count_cons_ne b c l e]
      have hix := index_cons_ne l e
      unfold split at ih
      by_cases hm : index l [c] = -1
      · rw [if_pos hm] at hix
        rw [count_miss hm] at ih ⊢
        rw [← ih]; rfl
      · rw [if_neg hm] at hix
        have hge := index_ge l [c]
        obtain ⟨j, hj⟩ : ∃ j : Nat, index l [c] = j := ⟨(index l [c]).toNat, by omega⟩
        have hc : count l [c] = (count (l.drop (j + 1)) [c]) + 1 := by rw [count_hit (by simp) hj]; simp; omega
        rw [hc] at ih ⊢
        rw [hj] at hix
        rw [splitK, hj] at ih
        rw [splitK, hix]
        have t1 : (((j : Nat) : Int) == -1) = false := by rw [beq_eq_false_iff_ne]; omega
        have t2 : (((j : Nat) : Int) + 1 == -1) = false := by rw [beq_eq_false_iff_ne]; omega
        have t3 : (((j : Nat) : Int) + 1).toNat = j + 1 := by omega
        rw [t1] at ih
        rw [t2, t3]
        simp only [Int.toNat_natCast, Bool.false_eq_true, if_false, Nat.add_zero, List.length_singleton] at ih ⊢
        rw [← ih]
        simp
def cutB (c : UInt8) : List UInt8 → List UInt8
  | [] => []
  | b :: l => if b = c then [] else b :: cutB c l
def cutA (c : UInt8) : List UInt8 → List UInt8
  | [] => []
  | b :: l => if b = c then l else cutA c l
def cutOk (c : UInt8) (l : List UInt8) : Bool := l.contains c
theorem cut_is (c : UInt8) : ∀ l, cut l [c] = (cutB c l, cutA c l, cutOk c l)
  | [] => by unfold cut; simp [index, cutB, cutA, cutOk]
  | b :: l => by
    have ih := cut_is c l
    by_cases e : b = c
    · subst e
      unfold cut
      rw [index_cons_eq]
      simp [cutB, cutA, cutOk]
    · have hix := index_cons_ne l e
      have hok : cutOk c (b :: l) = cutOk c l := by
        unfold cutOk
        rw [List.contains_cons, show (c == b) = false by simpa using Ne.symm e]; rfl
      unfold cut at ih ⊢
      rw [hix, hok]
      by_cases hm : index l [c] = -1
      · rw [hm] at ih
        rw [if_pos hm]
        simp only [show ¬ (0 : Int) ≤ -1 by omega, if_false, Prod.mk.injEq] at ih ⊢
        rw [cutB, cutA, if_neg e, if_neg e, ← ih.1, ← ih.2.1]
        exact ⟨rfl, rfl, ih.2.2⟩
      · have hge := index_ge l [c]
        obtain ⟨j, hj⟩ : ∃ j : Nat, index l [c] = j := ⟨(index l [c]).toNat, by omega⟩
        rw [if_neg hm, hj]
        rw [hj, if_pos (by omega)] at ih
        rw [if_pos (by omega)]
        simp only [Prod.mk.injEq, Int.toNat_natCast, List.length_singleton] at ih ⊢
        rw [cutB, cutA, if_neg e, if_neg e, ← ih.1, ← ih.2.1, show ((j : Int) + 1).toNat = j + 1 by omega]
        exact ⟨rfl, rfl, ih.2.2⟩
end Go.Proofs.YtjpbjghdplbdcaaGreatDoor
end
section
namespace Go.Proofs.YtjpbjghdplbdcaaGreatDoor
open Go.RowKit
def Own (w : World) (base : Nat) (e : TypeId) (size : Nat) (A : Option Addr) (n c : Nat) (xs : List Value) : Prop := w.ownsRow base e size (.slice A n c) n xs

section
variable {w w' : World} {base base' size n c : Nat} {e : TypeId} {A : Option Addr} {xs : List Value}
theorem Own.len (h : Own w base e size A n c xs) : xs.length = n * size := h.1
theorem Own.nil (w : World) (base : Nat) (e : TypeId) (size : Nat) : Own w base e size none 0 0 [] := World.ownsRow_nil w base e size
theorem Own.sl (h : Own w base e size A n c xs) : Sl w w.heap.size size A n c xs := by
  obtain ⟨A', c', hv, hs⟩ := Sl.of_own h
  injection hv with h1 h2 h3
  subst h1; subst h3; exact hs
theorem Own.addr (h : Own w base e size A n c xs) (hn : 0 < n) : ∃ g, A = some ⟨g, 0, none⟩ ∧ base ≤ g ∧ g < w.heap.size := by
  rcases h.2 with ⟨_, h0⟩ | ⟨g, cap, cur, hv, hb, hg, _⟩
  · omega
  · injection hv with h1
    exact ⟨g, h1, hb, (Array.getElem?_eq_some_iff.1 hg).1⟩
theorem Own.cell {g : Nat} (h : Own w base e size (some ⟨g, 0, none⟩) n c xs) {j : Nat} {u : Value} (hu : xs[j]? = some u) : w.cell? ⟨g, j, none⟩ = some u := by
  rw [World.ownsRow.cellAt h j (by rw [← h.len]; exact (List.getElem?_eq_some_iff.1 hu).1), hu]
theorem Own.free {g : Nat} (h : Own w base e size (some ⟨g, 0, none⟩) n c xs) (j : Nat) : w.frozen? ⟨g, j, none⟩ = false := World.ownsRow.frozenAt h j
theorem Own.set {g : Nat} (h : Own w base e size (some ⟨g, 0, none⟩) n c xs) (j : Nat) (u : Value) : Own (w.setCell ⟨g, j, none⟩ u) base e size (some ⟨g, 0, none⟩) n c (xs.set j u) := (World.ownsRow.stored h j u).1
theorem Own.drew (h : Own w base e size A n c xs) : Own w.drew base e size A n c xs := h
theorem Own.drewN (h : Own w base e size A n c xs) (k : Nat) : Own (w.drewN k) base e size A n c xs := h
theorem Own.alloc (h : Own w base e size A n c xs) (o : Obj) : Own (w.alloc o) base e size A n c xs := World.ownsRow.alloc h o
theorem Own.mono (h : Own w base e size A n c xs) (hb : base' ≤ base) : Own w base' e size A n c xs := by
  refine ⟨h.1, ?_⟩
  rcases h.2 with hn | ⟨g, cap, cur, hv, hg, r⟩
  · exact .inl hn
  · exact .inr ⟨g, cap, cur, hv, Nat.le_trans hb hg, r⟩
theorem Own.below {B : Nat} (h : Own w base e size A n c xs) (hb : Below B w w') (hB : w.heap.size ≤ B) : Own w' base e size A n c xs := by
  refine ⟨h.1, ?_⟩
  rcases h.2 with hn | ⟨g, cap, cur, hv, hg, hh, r⟩
  · exact .inl hn
  · exact .inr ⟨g, cap, cur, hv, hg, by rw [hb.block g (Nat.lt_of_lt_of_le (Array.getElem?_eq_some_iff.1 hh).1 hB)]; exact hh, r⟩
theorem Own.far (h : Own w base e size A n c xs) {p : Addr} (hp : ∀ g, A = some ⟨g, 0, none⟩ → g ≠ p.block) (u : Value) : Own (w.setCell p u) base e size A n c xs := by
  refine ⟨h.1, ?_⟩
  rcases h.2 with hn | ⟨g, cap, cur, hv, hg, hh, r⟩
  · exact .inl hn
  · injection hv with h1 h2 h3
    subst h3
    exact .inr ⟨g, c, cur, by rw [h1], hg, by rw [Below.heap_setCell _ _ _ _ (hp g h1)]; exact hh, r⟩
theorem Own.low (h : Own w base e size A n c xs) {p : Addr} (hp : p.block < base) (u : Value) : Own (w.setCell p u) base e size A n c xs := by
  refine ⟨h.1, ?_⟩
  rcases h.2 with hn | ⟨g, cap, cur, hv, hg, hh, r⟩
  · exact .inl hn
  · exact .inr ⟨g, cap, cur, hv, hg, by rw [Below.heap_setCell _ _ _ _ (by omega)]; exact hh, r⟩
theorem Own.grown {row : Option Nat} (h : Own w base e size A n c xs) (hg : w.grownBy w' row) (hr : ∀ g, A = some ⟨g, 0, none⟩ → row ≠ some g) : Own w' base e size A n c xs := by
  refine ⟨h.1, ?_⟩
  rcases h.2 with hn | ⟨g, cap, cur, hv, hgb, hh, r⟩
  · exact .inl hn
  · injection hv with h1 h2 h3
    subst h3
    exact .inr ⟨g, c, cur, by rw [h1], hgb, by rw [hg.block g (Array.getElem?_eq_some_iff.1 hh).1 (fun e => hr g h1 e.symm)]; exact hh, r⟩
theorem Own.new (w : World) (base : Nat) (e : TypeId) (size n : Nat) (cs : Array Value) (hb : base ≤ w.heap.size) (hm : n ≤ maxLen) (hs : cs.size = n * size) :
    Own (w.alloc (.cells cs e)) base e size (some ⟨w.heap.size, 0, none⟩) n n cs.toList := World.ownsRow_lit w cs n hb hm hs
theorem Sl.new (w : World) (e : TypeId) (size n : Nat) (cs : List Value) (hm : n ≤ maxLen) (hs : cs.length = n * size) :
    Sl (w.alloc (.cells cs.toArray e)) (w.heap.size + 1) size (some ⟨w.heap.size, 0, none⟩) n n cs := by
  have h := (Own.new w 0 e size n cs.toArray (Nat.zero_le _) hm (by simpa using hs)).sl
  simpa using h
end
theorem heap_alloc_get (w : World) (o : Obj) (i : Nat) : (w.alloc o).heap[i]? = if i = w.heap.size then some o else w.heap[i]? := by
  show (w.heap.push o)[i]? = _
  rw [Array.getElem?_push]
theorem Sl.blk {w : World} {g : Nat} {cs : List Value} {e : TypeId} (size n : Nat) (h : w.heap[g]? = some (.cells cs.toArray e (0, 0))) (hs : cs.length = n * size) (hm : n ≤ maxLen) :
    Sl w w.heap.size size (some ⟨g, 0, none⟩) n n cs := by
  refine ⟨hs, Nat.le_refl _, hm, (fun h => by cases h), fun _ => ⟨_, rfl, (Array.getElem?_eq_some_iff.1 h).1, fun j u hu => ?_⟩⟩
  rw [add_lit0, cell_of_row w g j _ e (0, 0) h]
  simpa using hu
def Blk (w : World) (g : Nat) (t : TypeId) (cs : Array Value) : Prop := w.heap[g]? = some (.cells cs t (0, 0))
section
variable {w w' : World} {g : Nat} {t : TypeId} {cs : Array Value}
theorem Blk.lt (h : Blk w g t cs) : g < w.heap.size := (Array.getElem?_eq_some_iff.1 h).1
theorem Blk.cell (h : Blk w g t cs) (i : Nat) : w.cell? ⟨g, i, none⟩ = cs[i]? := cell_of_row w g i cs t (0, 0) h
theorem Blk.at_ (h : Blk w g t cs) {i : Nat} {u : Value} (hu : cs[i]? = some u) : w.cell? ⟨g, i, none⟩ = some u := (h.cell i).trans hu
theorem Blk.free (h : Blk w g t cs) (i : Nat) : w.frozen? ⟨g, i, none⟩ = false := frozen_of_row w g i cs t h
theorem Blk.new (w : World) (t : TypeId) (cs : Array Value) : Blk (w.alloc (.cells cs t)) w.heap.size t cs := heap_alloc_new w _
theorem Blk.drewN (h : Blk w g t cs) (n : Nat) : Blk (w.drewN n) g t cs := h
theorem Blk.drew (h : Blk w g t cs) : Blk w.drew g t cs := h
theorem Blk.alloc (h : Blk w g t cs) (o : Obj) : Blk (w.alloc o) g t cs := (Below.heap_alloc w o g h.lt).trans h
theorem Blk.set (h : Blk w g t cs) (i : Nat) (u : Value) : Blk (w.setCell ⟨g, i, none⟩ u) g t (cs.setIfInBounds i u) := heap_setCell_same w g i cs t u h
theorem Blk.far (h : Blk w g t cs) {p : Addr} (hp : g ≠ p.block) (u : Value) : Blk (w.setCell p u) g t cs := (Below.heap_setCell w p u g hp).trans h
theorem Blk.below {B : Nat} (h : Blk w g t cs) (hb : Below B w w') (hg : g < B) : Blk w' g t cs := (hb.block g hg).trans h
theorem Blk.grown {row : Option Nat} (h : Blk w g t cs) (hb : w.grownBy w' row) (hg : row ≠ some g) : Blk w' g t cs := (hb.block g h.lt (fun e => hg e.symm)).trans h
theorem Own.apart {base size n c : Nat} {e : TypeId} {A : Option Addr} {xs : List Value} (h : Own w base e size A n c xs) (hb : Blk w g t cs) (hne : e ≠ t) : ∀ g', A = some ⟨g', 0, none⟩ → g' ≠ g := by
  rintro g' rfl rfl
  rcases h.2 with ⟨hv, _⟩ | ⟨g2, cap, cur, hv, _, hh, _⟩
  · cases hv
  · injection hv with h1
    injection h1 with h1
    injection h1 with h1
    subst h1
    unfold Blk at hb
    rw [hh] at hb
    injection hb with hb
    injection hb with _ he
    exact hne he
end
theorem bcell {W w1 : World} (hb : Below W.heap.size W w1) : (∀ b o, b < W.heap.size → w1.cell? ⟨b, o, none⟩ = W.cell? ⟨b, o, none⟩) ∧ (∀ b o, b < W.heap.size → w1.frozen? ⟨b, o, none⟩ = W.frozen? ⟨b, o, none⟩) :=
  ⟨fun b o h => hb.cell (p := ⟨b, o, none⟩) h, fun b o h => hb.frozen (p := ⟨b, o, none⟩) h⟩
theorem keep3 {w1 W : World} {b : Nat} {v0 v1 v2 : Value} (hb : b < w1.heap.size) (f0 : w1.cell? ⟨b, 0, none⟩ = some v0) (f1 : w1.cell? ⟨b, 1, none⟩ = some v1) (f2 : w1.cell? ⟨b, 2, none⟩ = some v2) (h : Below w1.heap.size w1 W) :
    Below w1.heap.size w1 W ∧ W.cell? ⟨b, 0, none⟩ = some v0 ∧ W.cell? ⟨b, 1, none⟩ = some v1 ∧ W.cell? ⟨b, 2, none⟩ = some v2 :=
  ⟨h, (h.cell (p := ⟨b, 0, none⟩) hb).trans f0, (h.cell (p := ⟨b, 1, none⟩) hb).trans f1, (h.cell (p := ⟨b, 2, none⟩) hb).trans f2⟩
structure ElemT (P : Program) (t e : TypeId) (z : Value) (size bytes : Nat) : Prop where
  ul : P.underlying t = some (.slice e)
  info : (P.info? e).map (fun i => (i.zero, i.size, i.bytes)) = some (some z, size, bytes)
  zs : z.cells.size = size
  pos : 0 < size

def blockOf (A : Option Addr) : Option Nat := A.map (·.block)

structure Apped (w w' : World) (base : Nat) (e : TypeId) (size : Nat) (A A' : Option Addr) (n c' : Nat) (xs : List Value) : Prop where
  own : Own w' base e size A' n c' xs
  below : Below base w w'
  grow : w.grownBy w' (blockOf A)
  lies : blockOf A' = blockOf A ∨ blockOf A' = some w.heap.size

theorem Own.blk {w : World} {base size n c : Nat} {e : TypeId} {A : Option Addr} {xs : List Value} (h : Own w base e size A n c xs) {g : Nat} (hg : blockOf A = some g) : base ≤ g ∧ g < w.heap.size := by
  rcases h.2 with ⟨hv, _⟩ | ⟨g', cap, cur, hv, hb, hh, _⟩
  · injection hv with h1; subst h1; cases hg
  · injection hv with h1; subst h1
    have : g' = g := by simpa [blockOf] using hg
    subst this
    exact ⟨hb, (Array.getElem?_eq_some_iff.1 hh).1⟩

theorem Own.apart_blk {w : World} {g : Nat} {t : TypeId} {cs : Array Value} {base size n c : Nat} {e : TypeId} {A : Option Addr} {xs : List Value} (h : Own w base e size A n c xs) (hb : Blk w g t cs) (hne : e ≠ t) : blockOf A ≠ some g := by
  intro he
  rcases h.2 with ⟨hv, _⟩ | ⟨g2, cap, cur, hv, _, hh, _⟩
  · injection hv with h1; subst h1; cases he
  · injection hv with h1; subst h1
    have : g2 = g := by simpa [blockOf] using he
    exact h.apart hb hne g2 rfl this

section
variable {P : Program} {t e : TypeId} {z : Value} {size bytes : Nat}
theorem run_append_sl (T : ElemT P t e z size bytes) (w : World) (ty : TypeId) {base n c m k B : Nat} {A S : Option Addr} {xs news : List Value}
    (hown : Own w base e size A n c xs) (hs : Sl w B size S m k news) (h1 : ∀ u ∈ news, u.oneCell' = true)
    (h63 : n + m ≤ maxLen) (hbytes : (n + m) * bytes ≤ 140737488355328) (hbase : base ≤ w.heap.size) :
    ∃ A' c' w', (Builtin.append_ #[t, t] ty #[.slice A n c, .slice S m k]).run P w = .ok (.slice A' (n + m) c') w' ∧ Apped w w' base e size A A' (n + m) c' (xs ++ news) := by
  obtain ⟨i, hi, hz, hsz, hby⟩ := info_parts T.info
  have hb0 : ∀ (w' : World), w.grownBy w' (blockOf A) → Below base w w' := fun w' hg => (Below.refl base w).grown hg hbase fun g hg' => (hown.blk hg').1
  have hown' : w.ownsRow base e size (.slice A n c) n xs := hown
  have hob : (Value.slice A n c).ownBlock = blockOf A := by cases A <;> rfl
  rcases S with _ | ad
  · have hk := hs.nul rfl
    have hcap := hs.cap
    have hm : m = 0 := by omega
    subst hm; subst hk
    have hn : news = [] := List.eq_nil_of_length_eq_zero (by simpa using hs.len)
    subst hn
    refine ⟨A, c, w, run_append_owned_none (P := P) w base t ty e i size T.ul hi _ n xs hown', ⟨?_, Below.refl _ _, World.grownBy.refl _ _, .inl rfl⟩⟩
    simpa using hown
  · have hcells : ∀ j u, news[j]? = some u → w.cell? (ad.add j) = some u := by
      intro j u hu
      obtain ⟨ad', h, _, hc⟩ := hs.cell hu
      injection h with h
      subst h
      exact hc
    obtain ⟨v', w', hrun, h2, h3, h4, h5⟩ := run_append_own_at (P := P) w base t ty e i z size bytes T.ul hi hz hsz hby T.zs T.pos _ n xs hown' ad m k news hs.len hcells h1 h63 hbytes hbase
    rw [hob] at h3 h5
    rcases h2.2 with ⟨hv, h0⟩ | ⟨g, cap, cur, hv, hb, hh, r⟩
    · subst hv
      have e0 : n + m = 0 := h0
      refine ⟨none, 0, w', by rw [e0]; exact hrun, ⟨by rw [e0] at h2 ⊢; exact h2, hb0 w' h3, h3, h5⟩⟩
    · subst hv
      exact ⟨_, _, w', hrun, ⟨h2, hb0 w' h3, h3, h5⟩⟩

theorem wp_append_sl (T : ElemT P t e z size bytes) {w : World} {o : Oper} {a : Act} {K : Act → World → Prop} {Q : Exit → Act → World → Prop} (s x : Operand)
    (ho : o.op = .call { callee := .builtin .append, args := #[s, x], argTypes := #[t, t] })
    {base n c m k B : Nat} {A S : Option Addr} {xs news : List Value} (hes : a.eval s = .slice A n c) (hex : a.eval x = .slice S m k)
    (hown : Own w base e size A n c xs) (hs : Sl w B size S m k news) (h1 : ∀ u ∈ news, u.oneCell' = true)
    (h63 : n + m ≤ maxLen) (hbytes : (n + m) * bytes ≤ 140737488355328) (hbase : base ≤ w.heap.size)
    (h : ∀ A' c' w', Apped w w' base e size A A' (n + m) c' (xs ++ news) → K (a.put o.dst (.slice A' (n + m) c')) w') : o.wp P a w K Q := by
  obtain ⟨A', c', w', hrun, h2⟩ := run_append_sl T w o.type hown hs h1 h63 hbytes hbase
  unfold Oper.wp execOp
  simp only [ho, resolve, invoke, builtin, Sem.run_bind, Sem.run_pure, Result.andThen_ok, List.map_toArray, List.map_cons, List.map_nil, hes, hex, hrun]
  exact h A' c' w' h2

theorem wpList_append_sl (T : ElemT P t e z size bytes) {w : World} {ops : Array Oper} {rest : List Oper} {o : Oper} {a : Act} {Q : Exit → Act → World → Prop} (hgd : o.guard = none) (s x : Operand)
    (ho : o.op = .call { callee := .builtin .append, args := #[s, x], argTypes := #[t, t] })
    {base n c m k B : Nat} {A S : Option Addr} {xs news : List Value} (hes : a.eval s = .slice A n c) (hex : a.eval x = .slice S m k)
    (hown : Own w base e size A n c xs) (hs : Sl w B size S m k news) (h1 : ∀ u ∈ news, u.oneCell' = true)
    (h63 : n + m ≤ maxLen) (hbytes : (n + m) * bytes ≤ 140737488355328) (hbase : base ≤ w.heap.size)
    (h : ∀ A' c' w', Apped w w' base e size A A' (n + m) c' (xs ++ news) → wpList P ops Q rest (a.put o.dst (.slice A' (n + m) c')) w') : wpList P ops Q (o :: rest) a w :=
  wpList_plain hgd fun _ hK => wp_append_sl T s x ho hes hex hown hs h1 h63 hbytes hbase fun A' c' w' h2 => hK _ _ (h A' c' w' h2)

end
end Go.Proofs.YtjpbjghdplbdcaaGreatDoor
end
section
namespace Go.Proofs.YtjpbjghdplbdcaaGreatDoor
open Go.RowKit
abbrev thrown (e : Int) : Ending := .panicked [{ v := .iface 78 (.agg #[.int .i64 e]), recovered := false }]
theorem bad_any (e : Int) (w : World) : Calls Tryz.prog 94 #[.int .i64 e] w fun x w' => x = thrown e ∧ w' = w := by
  go_enter Tryz.func94, Tryz.ntmps94
  go_wp2
  exact ⟨rfl, rfl, rfl⟩
theorem must_ok (w : World) : Calls Tryz.prog 90 #[.int .i64 0] w fun x w' => x = .returned (.tuple #[]) ∧ w' = w := by
  go_enter Tryz.func90, Tryz.ntmps90
  go_wp2_with fail
  go_end0
  exact ⟨rfl, rfl⟩
theorem must_bad {e : Int} (h : e ≠ 0) (w : World) : Calls Tryz.prog 90 #[.int .i64 e] w fun x w' => x = thrown e ∧ w' = w := by
  have t : (e != 0) = true := by simpa using h
  clear h
  go_enter Tryz.func90, Tryz.ntmps90
  go_wp2_with fail
  refine (bad_any e w).mono ?_
  rintro x w' ⟨rfl, rfl⟩
  exact ⟨rfl, rfl, rfl⟩
abbrev wds (xs : List (List UInt8)) : List Value := xs.map fun x => Value.string (tx x)
abbrev St (w : World) (A : Option Addr) (n c : Nat) (xs : List (List UInt8)) : Prop := Sl w w.heap.size 1 A n c (wds xs)
theorem wds_at {xs : List (List UInt8)} {k : Nat} {x : List UInt8} (h : xs[k]? = some x) : (wds xs)[k]? = some (.string (tx x)) := by simp [wds, h]
theorem Sl.wlen {w : World} {B n c : Nat} {A : Option Addr} {xs : List (List UInt8)} (h : Sl w B 1 A n c (wds xs)) : xs.length = n := by have := h.len; simpa [wds] using this
theorem Sl.tcell {w : World} {B n c : Nat} {A : Option Addr} {xs : List (List UInt8)} (h : Sl w B 1 A n c (wds xs)) {j : Nat} (hj : j < n) :
    ∃ ad x, A = some ad ∧ ad.block < B ∧ xs[j]? = some x ∧ w.cell? (ad.add j) = some (.string (tx x)) := by
  have hl := h.wlen
  have hx : xs[j]? = some (xs[j]'(by omega)) := List.getElem?_eq_getElem (by omega)
  obtain ⟨ad, e, hb, hc⟩ := h.cell (wds_at hx)
  exact ⟨ad, _, e, hb, hx, hc⟩
def WordsAt (w : World) (g : Nat) (xs : List (List UInt8)) (k : Nat) : Prop := ∃ A n c, Blk w g 82 #[.slice A n c, .int .i64 k] ∧ Sl w g 1 A n c (wds xs) ∧ n ≤ 1000000
section
variable {w : World} {g k : Nat} {xs : List (List UInt8)}
set_option maxHeartbeats 1600000 in
theorem end_ok (h : WordsAt w g xs xs.length) : Calls Tryz.prog 34 #[.pointer (some ⟨g, 0, none⟩)] w fun x w' => x = .returned (.tuple #[]) ∧ ∃ q, w' = w.drewN q := by
  obtain ⟨A, n, c, hb, hs, hn⟩ := h
  have hl := hs.wlen
  have f0 := hb.at_ (i := 0) (u := .slice A n c) rfl
  have f1 := hb.at_ (i := 1) (u := .int .i64 (xs.length : Nat)) rfl
  rw [hl] at f1
  clear hb hs hl
  go_enter Tryz.func34, Tryz.ntmps34
  go_wp2_with fail
  go_quiet (fail)
  go_wp2_with fail
  go_end0
  exact ⟨rfl, _, rfl⟩
theorem end_bad (h : WordsAt w g xs k) (hk : k < xs.length) : Calls Tryz.prog 34 #[.pointer (some ⟨g, 0, none⟩)] w fun x w' => x = thrown 9 ∧ ∃ q, w' = w.drewN q := by
  obtain ⟨A, n, c, hb, hs, hn⟩ := h
  have hl := hs.wlen
  have f0 := hb.at_ (i := 0) (u := .slice A n c) rfl
  have f1 := hb.at_ (i := 1) (u := .int .i64 (k : Nat)) rfl
  have t : ((k : Int) != (n : Int)) = true := by rw [bne_iff_ne]; omega
  clear hb hs hl hk
  go_enter Tryz.func34, Tryz.ntmps34
  go_wp2_with fail
  go_quiet (fail)
  go_wp2_with fail
  refine (bad_any 9 _).mono ?_
  rintro x w' ⟨rfl, rfl⟩
  exact ⟨rfl, rfl, _, rfl⟩
end
end Go.Proofs.YtjpbjghdplbdcaaGreatDoor
end
