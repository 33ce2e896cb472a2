/-
  few.Join and few.Most against the document's answers: plain matters of lists.
-/
import Derived.Test.YtfopihlbdceepaaGreatFewer
namespace Go.Proofs.YtfopihlbdceepaaGreat

/-- What few.Join hands back of all counters. -/
def JoinedC (K L : Int) (m : List Ct) (y : Int × Int × Int × List Ct) : Prop :=
  if (m.length : Int) ≤ K then finC K L m = y else ∃ (zs : List Int) (d : Int), zs.Perm (m.map (·.2)) ∧ zs.Pairwise (fun x z => x ≤ z) ∧ zs[m.length - 1 - K.toNat]? = some d ∧ finC K (L + d) (lessC d m) = y
theorem down_ext : ∀ {a b : List Int}, a.Perm b → Down a → Down b → a = b := by
  intro a b hp ha hb
  refine List.Perm.eq_of_pairwise (le := fun x y : Int => y ≤ x) (fun x y _ _ h1 h2 => by omega) ha hb hp
theorem join_law {K L : Int} {k : Nat} {m : List Ct} {y z : Int × Int × Int × List Ct} (hK : K = k) (h1 : JoinedC K L m y) (h2 : Fewed k L m z) : y = z := by
  subst hK
  unfold JoinedC at h1
  unfold Fewed at h2
  by_cases hc : m.length ≤ k
  · rw [if_pos (by omega)] at h1
    rw [if_pos hc] at h2
    exact h1.symm.trans h2
  · rw [if_neg (by omega)] at h1
    rw [if_neg hc] at h2
    obtain ⟨zs, d, hp, hs, hd, h1⟩ := h1
    obtain ⟨us, e, hq, hdn, he, h2⟩ := h2
    have hrev : zs.reverse = us := down_ext ((List.reverse_perm zs).trans (hp.trans hq.symm)) (by rw [Down, List.pairwise_reverse]; exact hs) hdn
    have hzl : zs.length = m.length := by rw [hp.length_eq, List.length_map]
    rw [← hrev, List.getElem?_reverse (by omega), hzl, show m.length - 1 - k = m.length - 1 - ((k : Int)).toNat by omega] at he
    rw [hd] at he
    injection he with he
    subst he
    exact h1.symm.trans h2
/-- Both lists' counters, one after the other. -/
theorem allC_fold {l m : List Ct} (h : UpK l) : allC (l ++ m) = m.foldl (fun a p => addC p.1 p.2 a) l := by rw [allC_append, allC_self h]

/-- How often x comes. -/
abbrev cn (x : Int) (l : List Int) : Nat := l.count x
def bmStep (s : Int × Int) (x : Int) : Int × Int := if s.2 = 0 then (x, 1) else if x = s.1 then (s.1, s.2 + 1) else (s.1, s.2 - 1)
def bm (l : List Int) : Int × Int := l.foldl bmStep (0, 0)
theorem bm_snoc (l : List Int) (x : Int) : bm (l ++ [x]) = bmStep (bm l) x := by simp [bm]
theorem cn_snoc (l : List Int) (x y : Int) : cn y (l ++ [x]) = cn y l + if x = y then 1 else 0 := by
  rw [cn, List.count_append]
  by_cases h : x = y
  · subst h; simp
  · rw [if_neg h, List.count_singleton, if_neg (by simpa using h)]
def BmOk (l : List Int) : Prop := 0 ≤ (bm l).2 ∧ (bm l).2 ≤ l.length ∧ 2 * (cn (bm l).1 l : Int) ≤ l.length + (bm l).2 ∧ ∀ y, y ≠ (bm l).1 → 2 * (cn y l : Int) + (bm l).2 ≤ l.length
theorem bm_step {l : List Int} (x : Int) (h : BmOk l) : BmOk (l ++ [x]) := by
  obtain ⟨h0, h1, h2, h3⟩ := h
  unfold BmOk
  rw [bm_snoc]
  have hl : ((l ++ [x]).length : Int) = l.length + 1 := by simp
  rw [hl]
  unfold bmStep
  obtain ⟨o, n, hb⟩ : ∃ o n, bm l = (o, n) := ⟨_, _, rfl⟩
  rw [hb] at h0 h1 h2 h3 ⊢
  dsimp only at h0 h1 h2 h3 ⊢
  clear hb
  by_cases c0 : n = 0
  · rw [if_pos c0]
    subst c0
    have hall : ∀ y, 2 * (cn y l : Int) ≤ l.length := fun y => by
      by_cases e : y = o
      · subst e; omega
      · have := h3 y e; omega
    refine ⟨by dsimp only; omega, by dsimp only; omega, ?_, fun y hy => ?_⟩
    · dsimp only
      rw [cn_snoc, if_pos rfl]
      have := hall x
      omega
    · dsimp only at hy ⊢
      rw [cn_snoc, if_neg (fun e => hy e.symm)]
      have := hall y
      omega
  · rw [if_neg c0]
    by_cases c1 : x = o
    · rw [if_pos c1]
      subst c1
      refine ⟨by dsimp only; omega, by dsimp only; omega, ?_, fun y hy => ?_⟩
      · dsimp only; rw [cn_snoc, if_pos rfl]; omega
      · dsimp only at hy ⊢
        rw [cn_snoc, if_neg (fun e => hy e.symm)]
        have := h3 y hy
        omega
    · rw [if_neg c1]
      refine ⟨by dsimp only; omega, by dsimp only; omega, ?_, fun y hy => ?_⟩
      · dsimp only; rw [cn_snoc, if_neg c1]; omega
      · dsimp only at hy ⊢
        have h4 := h3 y hy
        rw [cn_snoc]
        split <;> omega
theorem take_succ_snoc {α : Type} {l : List α} {k : Nat} {x : α} (h : l[k]? = some x) : l.take (k + 1) = l.take k ++ [x] := by rw [List.take_add_one, h]; rfl
theorem bm_take (l : List Int) : ∀ k, k ≤ l.length → BmOk (l.take k)
  | 0, _ => by simp [BmOk, bm, cn]
  | k + 1, h => by
    rw [take_succ_snoc (List.getElem?_eq_getElem (show k < l.length by omega))]
    exact bm_step _ (bm_take l k (by omega))
theorem bm_all (l : List Int) : BmOk l := by have := bm_take l l.length (Nat.le_refl _); rwa [List.take_length] at this
/-- By the one that is left over. -/
def mostA (l : List Int) : Int × Bool := if l.length < 2 * cn (bm l).1 l then ((bm l).1, true) else (0, false)
/-- The first of which there are that many. -/
def mostB (l : List Int) : Int × Bool := match l.find? (fun x => decide (l.length < 2 * cn x l)) with | some x => (x, true) | none => (0, false)
theorem most_eq (l : List Int) : mostA l = mostB l := by
  obtain ⟨h0, _, _, h3⟩ := bm_all l
  unfold mostB
  cases hf : l.find? (fun x => decide (l.length < 2 * cn x l)) with
  | some x =>
    have hx := List.find?_some hf
    simp only [decide_eq_true_eq] at hx
    have : x = (bm l).1 := by
      refine Classical.byContradiction fun hne => ?_
      have := h3 x hne
      omega
    subst this
    dsimp only
    rw [mostA, if_pos hx]
  | none =>
    have hn := List.find?_eq_none.1 hf
    dsimp only
    rw [mostA, if_neg]
    intro hc
    have hm : (bm l).1 ∈ l := List.count_pos_iff.1 (by show 0 < cn _ l; omega)
    have := hn _ hm
    simp only [decide_eq_true_eq] at this
    exact this hc
end Go.Proofs.YtfopihlbdceepaaGreat
