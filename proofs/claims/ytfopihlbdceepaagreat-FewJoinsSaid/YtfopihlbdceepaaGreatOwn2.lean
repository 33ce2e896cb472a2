/-
  Rows of the call's own, further: a row from a known block, its beginning, two rows that lie apart. Conditions: those that each lemma names; no program is named here.
-/
import Derived.Test.YtfopihlbdceepaaGreatApp
namespace Go.Proofs.YtfopihlbdceepaaGreat
open Go.RowKit

section
variable {w w' : World} {base base' size n c g : Nat} {e t : TypeId} {A A' : Option Addr} {xs : List Value} {cs : Array Value}
theorem Own.of_blk (h : Blk w g e cs) (hb : base ≤ g) (hm : n ≤ maxLen) (hs : cs.size = n * size) : Own w base e size (some ⟨g, 0, none⟩) n n cs.toList :=
  ⟨by simpa using hs, .inr ⟨g, n, cs, rfl, hb, h, Nat.le_refl _, hm, hs, List.take_of_length_le (by rw [Array.length_toList, hs]; exact Nat.le_refl _)⟩⟩
theorem Own.take (h : Own w base e size A n c xs) {m : Nat} (hm : m ≤ n) (hn : 0 < n) : Own w base e size A m c (xs.take (m * size)) := by
  refine ⟨by rw [List.length_take, h.len, Nat.min_eq_left (Nat.mul_le_mul_right _ hm)], ?_⟩
  rcases h.2 with ⟨hv, h0⟩ | ⟨g, cap, cur, hv, hb, hh, h1, h2, h3, h4⟩
  · omega
  · injection hv with e1 e2 e3
    subst e1; subst e3
    refine .inr ⟨g, c, cur, rfl, hb, hh, by omega, h2, h3, ?_⟩
    rw [← h4, List.take_take, Nat.min_eq_left (Nat.mul_le_mul_right _ hm)]
theorem Own.init {v : Value} (h : Own w base e 1 A (n + 1) c (xs ++ [v])) (hl : xs.length = n) : Own w base e 1 A n c xs := by
  have := h.take (m := n) (by omega) (by omega)
  rw [Nat.mul_one, show (xs ++ [v]).take n = xs from by rw [← hl, List.take_left]] at this
  exact this
theorem Own.cap (h : Own w base e size A n c xs) : n ≤ c ∧ c ≤ maxLen := ⟨h.sl.cap, h.sl.max⟩
/-- Two slices' blocks differ. -/
def Apart (A A' : Option Addr) : Prop := ∀ g, blockOf A = some g → blockOf A' ≠ some g
theorem Apart.symm (h : Apart A A') : Apart A' A := fun g h1 h2 => h g h2 h1
theorem Apart.nil (A : Option Addr) : Apart none A := fun g h => by cases h
theorem Apart.nil' (A : Option Addr) : Apart A none := fun g _ h => by cases h
theorem Own.grown_apart {A2 A2' : Option Addr} {b2 size2 n2 c2 : Nat} {e2 : TypeId} {xs2 : List Value} (h : Own w base e size A n c xs) (ap : Apped w w' b2 e2 size2 A2 A2' n2 c2 xs2) (hap : Apart A2 A) : Own w' base e size A n c xs :=
  h.grown ap.grow fun g hA he => hap g he (by rw [hA]; rfl)
theorem Apped.apart {A2 A2' : Option Addr} {b2 size2 n2 c2 : Nat} {e2 : TypeId} {xs2 : List Value} (ap : Apped w w' b2 e2 size2 A2 A2' n2 c2 xs2) (h : Own w base e size A n c xs) (hap : Apart A2 A) : Apart A2' A := by
  intro g hg hA
  rcases ap.lies with hl | hl
  · exact hap g (by rw [← hl]; exact hg) hA
  · rw [hl] at hg
    injection hg with hg
    have := (h.blk hA).2
    omega
/-- A row that lies below a block number. -/
theorem Own.apart_low {A2 : Option Addr} {b2 size2 n2 c2 : Nat} {e2 : TypeId} {xs2 : List Value} (h : Own w b2 e2 size2 A2 n2 c2 xs2) (hg : g < b2) : Apart A2 (some ⟨g, 0, Option.none⟩) := by
  intro k hk h2
  have h3 : g = k := by simpa [blockOf] using h2
  have := (h.blk hk).1
  omega
end
theorem Sl.lit {w : World} {g : Nat} {v : Value} {e : TypeId} (h : w.heap[g]? = some (.cells #[v] e (0, 0))) : Sl w (g + 1) 1 (some ⟨g, 0, none⟩) 1 1 [v] := by
  refine ⟨rfl, Nat.le_refl _, by simp [maxLen], (fun h => by cases h), fun _ => ⟨_, rfl, Nat.lt_succ_self _, fun j u hu => ?_⟩⟩
  rw [add_lit0, cell_of_row w g j _ e (0, 0) h]
  simpa using hu
theorem Own.apart_type {w : World} {b1 b2 s1 s2 n1 n2 c1 c2 : Nat} {e1 e2 : TypeId} {A1 A2 : Option Addr} {x1 x2 : List Value} (h1 : Own w b1 e1 s1 A1 n1 c1 x1) (h2 : Own w b2 e2 s2 A2 n2 c2 x2) (hne : e1 ≠ e2) : Apart A1 A2 := by
  intro g hg
  rcases h2.2 with ⟨hv, _⟩ | ⟨g2, cap, cur, hv, _, hh, _⟩
  · injection hv with hv; subst hv; exact fun h => by cases h
  · injection hv with hv; subst hv
    intro h
    have e : g2 = g := by simpa [blockOf] using h
    subst e
    exact h1.apart_blk (g := g2) (t := e2) (cs := cur) hh hne hg
theorem at_new (W : World) (o : Obj) : (W.alloc o).heap[W.heap.size]? = some o := heap_alloc_new W o
theorem at_newd (W : World) (o : Obj) : (W.alloc o).drew.heap[W.heap.size]? = some o := heap_alloc_new W o
theorem at_new2 (W : World) (o o2 : Obj) : ((W.alloc o).alloc o2).heap[W.heap.size]? = some o := by
  rw [heap_alloc_get, World.size_alloc, if_neg (by omega)]; exact at_new W o
theorem at_new2d (W : World) (o o2 : Obj) : ((W.alloc o).alloc o2).drew.heap[W.heap.size]? = some o := at_new2 W o o2
theorem at_new3 (W : World) (o o2 : Obj) : ((W.alloc o).alloc o2).heap[W.heap.size + 1]? = some o2 := by
  have := at_new (W.alloc o) o2
  rwa [World.size_alloc] at this
theorem at_new3d (W : World) (o o2 : Obj) : ((W.alloc o).alloc o2).drew.heap[W.heap.size + 1]? = some o2 := at_new3 W o o2
theorem lt_new2 (W : World) (o o2 : Obj) : W.heap.size < ((W.alloc o).alloc o2).heap.size := by simp only [World.size_alloc]; omega
theorem lt_new2d (W : World) (o o2 : Obj) : W.heap.size < ((W.alloc o).alloc o2).drew.heap.size := lt_new2 W o o2
theorem lt_new3 (W : World) (o o2 : Obj) : W.heap.size + 1 < ((W.alloc o).alloc o2).heap.size := by simp only [World.size_alloc]; omega
theorem lt_new3d (W : World) (o o2 : Obj) : W.heap.size + 1 < ((W.alloc o).alloc o2).drew.heap.size := lt_new3 W o o2
/-- An append of one new element, at a step of a region that draws its order. -/
theorem step_append_one {P : Program} {t e : TypeId} {z : Value} {bytes : Nat} (T : ElemT P t e z 1 bytes) {w : World} {ops : Array Oper} {o : Oper} {a : Act} {K : Act → World → Prop} {Q : Exit → Act → World → Prop} {E : Prop} (hgd : o.guard = none) (s x : Operand)
    (ho : o.op = .call { callee := .builtin .append, args := #[s, x], argTypes := #[t, t] })
    {base n c g : Nat} {A : Option Addr} {xs : List Value} {v : Value} (hes : a.eval s = .slice A n c) (hex : a.eval x = .slice (some ⟨g, 0, none⟩) 1 1)
    (hown : Own w base e 1 A n c xs) (hg : w.heap[g]? = some (.cells #[v] e (0, 0))) (h1 : v.oneCell' = true)
    (h63 : n + 1 ≤ maxLen) (hbytes : (n + 1) * bytes ≤ 140737488355328) (hbase : base ≤ w.heap.size)
    (h : ∀ A' c' w', Apped w w' base e 1 A A' (n + 1) c' (xs ++ [v]) → K (a.put o.dst (.slice A' (n + 1) c')) w') :
    if Region.wanted o (yielded ops a.tmps) = true then Oper.wp P o a w K Q else E :=
  step_append_sl T hgd s x ho hes hex hown (Sl.lit hg) (by intro u hu; rw [List.mem_singleton] at hu; subst hu; exact h1) h63 hbytes hbase h
end Go.Proofs.YtfopihlbdceepaaGreat
