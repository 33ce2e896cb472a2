/- Proves the parts of the claim that its last text joins: Few3, FewB, MapC, Counts, DkS. Conditions: those that each theorem names. -/
import Derived.Test.YtjpbjghdplbdcaaGreatDoorM11
import Derived.Test.YtjpbjghdplbdcaaGreatDoorM12
import Derived.Test.YtjpbjghdplbdcaaGreatDoorM05
import Derived.Test.YtjpbjghdplbdcaaGreatDoorM01
import Derived.Maps.OwnOps
import Derived.Maps.Views
import Derived.Maps.RangeWalk
import Derived.Maps.OwnSet
import Derived.Sort.KeysCollected
import Derived.Deep.DeepCutAuto
import Derived.Carry
import Derived.Test.YtjpbjghdplbdcaaGreatDoorM06
import Derived.Test.YtjpbjghdplbdcaaGreatDoorM09
import Derived.Test.YtjpbjghdplbdcaaGreatDoorM10
section
namespace Go.Proofs.YtjpbjghdplbdcaaGreatDoor
open Go.RowKit
theorem lessC_take {d : Int} {l : List Ct} {k : Nat} {x : Ct} (h : l[k]? = some x) : lessC d (l.take (k + 1)) = lessC d (l.take k) ++ (if d < x.2 then [(x.1, x.2 - d)] else []) := by
  unfold lessC
  rw [List.take_add_one, h]
  by_cases hd : d < x.2
  · simp [List.filter_append, hd]
  · simp [List.filter_append, hd]
section
variable {A : Option Addr} {n c : Nat} {l : List Ct} {w : World}
set_option maxRecDepth 20000 in
set_option maxHeartbeats 3200000 in
theorem less_any {d : Int} (h : Sp w A n c l) (hd : 0 ≤ d) (hd2 : d ≤ 4000000000000000000) (hc : ∀ p ∈ l, 0 ≤ p.2 ∧ p.2 ≤ 4000000000000000000) (hn : n ≤ 1000) :
    Calls Tryz.prog 246 #[.slice A n c, .int .i64 d] w fun e w' => ∃ A' c', e = .returned (.slice A' (lessC d l).length c') ∧ Own w' w.heap.size 128 2 A' (lessC d l).length c' (prs (lessC d l)) ∧ Below w.heap.size w w' := by
  have hm := h.len_max
  have HL := hide h.plen
  have HC := hide hc
  have hbd : ∀ a b : Int, (Instr.build 128 #[(0, .int .i64 a), (1, .int .i64 b)]).run Tryz.prog = (Instr.build 128 #[(0, .int .i64 a), (1, .int .i64 b)]).run Tryz.prog := fun _ _ => rfl
  clear hc hbd
  go_enter Tryz.func246, Tryz.ntmps246
  go_wp2_with fail
  go_loopw [5, 10] (fun o i wr => ∃ (k no : Nat) (Ao : Option Addr) (co : Nat), i = .int .i64 k ∧ k ≤ n ∧ o = .slice Ao no co ∧ Hid (no = (lessC d (l.take k)).length) ∧ no ≤ k ∧ Own wr w.heap.size 128 2 Ao no co (prs (lessC d (l.take k))) ∧ Below w.heap.size w wr) (fun _ i _ => n - (intOf i).toNat)
  case atStart => exact ⟨0, 0, none, 0, rfl, Nat.zero_le _, rfl, hide rfl, Nat.le_refl _, Own.nil _ _ _ _, Below.refl _ _⟩
  case round =>
    obtain ⟨k, no, Ao, co, rfl, hk, rfl, HNO, hno, own, hb⟩ := hrel
    by_cases hlt : k < n
    · obtain ⟨ad, x, rfl, hbk, hx, hc0, hc1⟩ := (h.below hb).pcell hlt
      have HT := hide (lessC_take (d := d) hx)
      obtain ⟨b1, b2⟩ := HC.out x (List.mem_of_getElem? hx)
      clear hx
      obtain ⟨x1, x2⟩ := x
      dsimp only at hc0 hc1 b1 b2
      have hzr := hb.size
      have bq := Blk.new wr 128 #[.int .i64 x1, .int .i64 x2]
      have hb2 := below_alloc hb (.cells #[.int .i64 x1, .int .i64 x2] 128)
      have own2 := own.alloc (.cells #[.int .i64 x1, .int .i64 x2] 128)
      by_cases hgt : d < x2
      · have HT2 := hide (show lessC d (l.take (k + 1)) = lessC d (l.take k) ++ [(x1, x2 - d)] by rw [HT.out, if_pos hgt])
        have ez : IntKind.i64.wrap (x2 - d) = x2 - d := IntWalk.i64_in _ (by omega)
        have q0 := bq.at_ (i := 0) (u := .int .i64 x1) rfl
        have q1 := bq.at_ (i := 1) (u := .int .i64 x2) rfl
        have hsl := Sl.new (wr.alloc (.cells #[.int .i64 x1, .int .i64 x2] 128)) 128 2 1 (prs [(x1, x2 - d)]) (by simp [maxLen]) rfl
        rw [World.size_alloc] at hsl
        have own3 := own2.alloc (.cells #[.int .i64 x1, .int .i64 (x2 - d)] 128)
        have hb3 := below_alloc hb2 (.cells #[.int .i64 x1, .int .i64 (x2 - d)] 128)
        clear HT bq
        go_wp2_with (at_builtin; refine wpList_append_sl T_ctr rfl _ _ rfl (by rfl) (by rfl) own3 hsl (prs_one _) (by simp only [maxLen]; omega) (by omega) (by simp only [World.size_alloc]; omega) ?_; intro A3 c3 w3 ap)
        have own4 := ap.own
        rw [← prs_append] at own4
        have hb4 := hb3.trans ap.below
        go_roundw
        case rel => exact ⟨k + 1, no + 1, A3, c3, by go_num, by omega, rfl, by rw [HT2.out, List.length_append, ← HNO.out]; exact hide rfl, by omega, by rw [HT2.out]; exact own4, hb4⟩
        case measure => simp [intOf]; omega
      · have HT2 := hide (show lessC d (l.take (k + 1)) = lessC d (l.take k) by rw [HT.out, if_neg hgt, List.append_nil])
        clear HT
        go_wp2_with fail
        go_roundw
        case rel => exact ⟨k + 1, no, Ao, co, by go_num, by omega, rfl, by rw [HT2.out]; exact HNO, by omega, by rw [HT2.out]; exact own2, hb2⟩
        case measure => simp [intOf]; omega
    · obtain rfl : k = n := by omega
      have HE := hide (show l.take k = l from List.take_of_length_le (by rw [HL.out]; exact Nat.le_refl _))
      go_wp2_with fail
      go_ret
      rw [HE.out] at own HNO
      exact ⟨Ao, co, by rw [← HNO.out]; rfl, by rw [← HNO.out]; exact own, hb⟩
set_option maxRecDepth 20000 in
set_option maxHeartbeats 3200000 in
theorem added_any {key v : Int} (h : Sp w A n c l) (hu : UpK l) (hc : ∀ p ∈ l, 0 ≤ p.2 ∧ p.2 ≤ 4000000000000000000) (hv : 0 ≤ v) (hv2 : v ≤ 1000000000000) (hn : n ≤ 1000) :
    Calls Tryz.prog 243 #[.slice A n c, .int .i64 key, .int .i64 v] w fun e w' => ∃ A' c', e = .returned (.slice A' (addC key v l).length c') ∧ Own w' w.heap.size 128 2 A' (addC key v l).length c' (prs (addC key v l)) ∧ Below w.heap.size w w' := by
  have hl := h.plen
  have CL := hide (cloneC h (by omega))
  have CF := hide (fun w' A' c' (hs : Sp w' A' n c' l) => findC_any (key := key) hs hu hn)
  have hpn : posC key l ≤ n := by rw [← hl]; exact posC_le key l
  obtain ⟨P, hP⟩ : ∃ P, posC key l = P := ⟨_, rfl⟩
  have hat := addC_at key v hu
  rw [hP] at CF hat hpn
  have HLN := hide hl
  cases hh : hasC key l with
  | true =>
    rw [hh] at CF
    obtain ⟨s, hs, he⟩ : ∃ s, l[P]? = some s ∧ s.1 = key := by
      unfold hasC at hh
      rw [hP] at hh
      cases hs : l[P]? with
      | none => rw [hs] at hh; cases hh
      | some s => rw [hs] at hh; exact ⟨s, rfl, of_decide_eq_true hh⟩
    rw [hs] at hat
    dsimp only at hat
    rw [if_pos he] at hat
    obtain ⟨b1, b2⟩ := hc s (List.mem_of_getElem? hs)
    obtain ⟨s1, s2⟩ := s
    dsimp only at he hat b1 b2
    subst he
    have hPn : P < n := by rw [← hl]; exact (List.getElem?_eq_some_iff.1 hs).1
    have HS := hide hs
    have HAT := hide hat
    have HLA := hide (show (addC s1 v l).length = n by rw [hat, List.length_set, hl])
    have ez : IntKind.i64.wrap (s2 + v) = s2 + v := IntWalk.i64_in _ (by omega)
    clear hs hat h hu hc hh hP hl
    go_enter Tryz.func243, Tryz.ntmps243
    go_wp2_with fail
    refine CL.out.mono ?_
    rintro e w1 ⟨A1, c1, rfl, own1, bel1⟩
    go_wp2_with fail
    refine (CF.out _ _ _ own1.sl).mono ?_
    rintro e w2 ⟨rfl, bel2⟩
    have own2 := own1.below bel2 (Nat.le_refl _)
    obtain ⟨g, rfl, hg, hgl⟩ := own2.addr (by omega)
    have d1 := own2.cell (prs_at1 HS.out)
    have d0 := own2.cell (prs_at0 HS.out)
    have f1 := own2.free (P * 2 + 1)
    dsimp only at d0 d1
    have k2 := below_on bel1 bel2
    clear own1 bel1 bel2 CL CF
    go_wp2_with fail
    go_ret
    have o3 := own2.set (P * 2 + 1) (.int .i64 (s2 + v))
    rw [prs_set1 HS.out] at o3
    exact ⟨_, c1, by rw [HLA.out]; rfl, by rw [HLA.out, HAT.out]; exact o3, below_set k2 (by dsimp only; omega) _⟩
  | false =>
    rw [hh] at CF
    have HAT := hide (show addC key v l = l.take P ++ (key, v) :: l.drop P by
      rw [hat]
      cases hs : l[P]? with
      | none => rfl
      | some s =>
        dsimp only
        rw [if_neg]
        intro e
        unfold hasC at hh
        rw [hP, hs] at hh
        exact of_decide_eq_false hh e)
    have HLA := hide (show (addC key v l).length = n + 1 by rw [HAT.out, List.length_append, List.length_take, List.length_cons, List.length_drop]; omega)
    clear hat h hu hc hh hP hl
    go_enter Tryz.func243, Tryz.ntmps243
    go_wp2_with fail
    refine CL.out.mono ?_
    rintro e w1 ⟨A1, c1, rfl, own1, bel1⟩
    go_wp2_with fail
    refine (CF.out _ _ _ own1.sl).mono ?_
    rintro e w2 ⟨rfl, bel2⟩
    have own2 := own1.below bel2 (Nat.le_refl _)
    have k2 := below_on bel1 bel2
    have hz := k2.size
    clear own1 bel1 bel2 CL CF
    go_wp2_with fail
    refine (insC (x := (key, v)) (own2.alloc _) (Blk.new _ _ _) ?_ hpn (by simp only [World.size_alloc]; omega) (by omega)).mono ?_
    · intro e
      have := (own2.blk e).2
      omega
    · rintro e w3 ⟨A', c', rfl, own3, g3⟩
      have g4 : Below w.heap.size w w3 := by
        refine Below.grown ?_ g3 ?_ fun k hk => (own2.blk hk).1
        · repeat' (first | assumption | with_reducible exact Below.refl _ _ | with_reducible apply Below.drew | with_reducible apply below_drewN | with_reducible apply below_alloc | with_reducible refine below_set ?_ ?_ _ | (simp only [World.size_alloc, World.heap_drewN]; omega) | (simp; omega))
        · simp only [World.size_alloc]; omega
      go_wp2_with fail
      go_ret
      exact ⟨_, _, by rw [HLA.out]; rfl, by rw [HLA.out, HAT.out]; exact own3, g4⟩
end
end Go.Proofs.YtjpbjghdplbdcaaGreatDoor
end
section
namespace Go.Proofs.YtjpbjghdplbdcaaGreatDoor
open Go.RowKit
abbrev noFew : Array Value := #[.int .i64 0, .int .i64 0, .slice none 0 0]
def finC (K L : Int) (m : List Ct) : Int × Int × Int × List Ct := if fwErr K L m.length m = 0 then (0, K, L, m) else (2, 0, 0, [])
theorem finC_yes {K L : Int} {m : List Ct} {N : Nat} (hN : m.length = N) (h : fwErr K L N m = 0) : finC K L m = (0, K, L, m) := if_pos (by rw [hN]; exact h)
theorem finC_no {K L : Int} {m : List Ct} {N : Nat} (hN : m.length = N) (h : fwErr K L N m ≠ 0) : finC K L m = (2, 0, 0, []) := if_neg (by rw [hN]; exact h)
theorem addC_mem {key v : Int} : ∀ {l : List Ct} {p : Ct}, p ∈ addC key v l → p ∈ l ∨ p.2 = v ∨ ∃ q ∈ l, p.2 = q.2 + v
  | [], p, h => by
    rw [addC, List.mem_singleton] at h
    subst h
    exact .inr (.inl rfl)
  | s :: l, p, h => by
    unfold addC at h
    split at h
    · rcases List.mem_cons.1 h with rfl | h
      · exact .inl List.mem_cons_self
      · rcases addC_mem h with h | h | ⟨q, h, e⟩
        · exact .inl (List.mem_cons_of_mem _ h)
        · exact .inr (.inl h)
        · exact .inr (.inr ⟨q, List.mem_cons_of_mem _ h, e⟩)
    · split at h
      · rcases List.mem_cons.1 h with rfl | h
        · exact .inr (.inr ⟨s, List.mem_cons_self, rfl⟩)
        · exact .inl (List.mem_cons_of_mem _ h)
      · rcases List.mem_cons.1 h with rfl | h
        · exact .inr (.inl rfl)
        · exact .inl h
end Go.Proofs.YtjpbjghdplbdcaaGreatDoor
end
section
namespace Go.Proofs.YtjpbjghdplbdcaaGreatDoor
open Go.RowKit Go.Maps
def lookC (key : Int) : List Ct → Option Int
  | [] => none
  | p :: l => if p.1 = key then some p.2 else lookC key l
theorem lookC_none {key : Int} : ∀ {l : List Ct}, (∀ p ∈ l, p.1 ≠ key) → lookC key l = none
  | [], _ => rfl
  | p :: l, h => by
    unfold lookC
    rw [if_neg (h p List.mem_cons_self)]
    exact lookC_none fun q hq => h q (List.mem_cons_of_mem _ hq)
theorem lookC_mem {key v : Int} : ∀ {l : List Ct}, lookC key l = some v → (key, v) ∈ l
  | [], h => by cases h
  | p :: l, h => by
    unfold lookC at h
    split at h
    · rename_i e
      injection h with h
      have : p = (key, v) := Prod.ext e h
      rw [this]; exact List.mem_cons_self
    · exact List.mem_cons_of_mem _ (lookC_mem h)
theorem cnt_lookC {key : Int} : ∀ {l : List Ct}, UpK l → cnt l key = (lookC key l).getD 0
  | [], _ => rfl
  | p :: l, hu => by
    rw [UpK, List.pairwise_cons] at hu
    rw [cnt_cons, cnt_lookC hu.2, lookC]
    by_cases e : p.1 = key
    · rw [if_pos e, if_pos e, lookC_none (fun q hq => by have := hu.1 q hq; omega)]; simp
    · rw [if_neg e, if_neg e]; omega
theorem lookC_cons (k : Int) (p : Ct) (l : List Ct) : lookC k (p :: l) = if p.1 = k then some p.2 else lookC k l := rfl
theorem lookC_add {key n k : Int} : ∀ {l : List Ct}, UpK l → lookC k (addC key n l) = if k = key then some (cnt l key + n) else lookC k l
  | [], _ => by
    rw [addC, lookC_cons, cnt_nil]
    dsimp only
    by_cases e : k = key
    · rw [if_pos e, if_pos e.symm]; simp
    · rw [if_neg e, if_neg (Ne.symm e)]
  | p :: l, hu => by
    have hu' := hu
    rw [UpK, List.pairwise_cons] at hu
    unfold addC
    split
    · rename_i hp
      rw [lookC_cons, lookC_add hu.2, cnt_cons, lookC_cons]
      by_cases e : k = key
      · rw [if_neg (by omega), if_pos e, if_pos e, if_neg (by omega)]; congr 1; omega
      · rw [if_neg e, if_neg e]
    · split
      · rename_i e
        rw [lookC_cons, cnt_lookC hu', lookC_cons, lookC_cons, if_pos e]
        dsimp only
        by_cases e2 : k = key
        · rw [if_pos (by omega), if_pos e2]; rfl
        · rw [if_neg (by omega), if_neg e2, if_neg (by omega)]
      · rename_i h1 h2
        rw [lookC_cons, cnt_lookC hu', lookC_none (key := key) (fun q hq => by
          rcases List.mem_cons.1 hq with rfl | hq
          · omega
          · have := hu.1 q hq; omega)]
        dsimp only
        by_cases e2 : k = key
        · rw [if_pos (by omega), if_pos e2]; simp
        · rw [if_neg (by omega), if_neg e2]
def SaysC (D : DataW Unit) (m : List Ct) : Prop := ∀ key z, D.atKey (.int .i64 key) z = match lookC key m with | some v => .lit (.int .i64 v) | none => z
def MapC (P : Program) (k e : TypeId) (w : World) (b n : Nat) (m : List Ct) : Prop := ∃ D : DataW Unit, w.ownsMap P k (plainElem P e) b n D ∧ IsMap D ∧ SaysC D m
section
variable {P : Program} {k e t : TypeId} {w w' : World} {b n : Nat} {m : List Ct}
theorem MapC.made (w : World) (P : Program) (k e : TypeId) : MapC P k e (w.alloc (.map #[] 0)) w.heap.size 0 [] :=
  ⟨.map [], World.ownsMap_made w P k _, ⟨[], rfl⟩, fun _ _ => rfl⟩
theorem MapC.lt (h : MapC P k e w b n m) : b < w.heap.size := by
  obtain ⟨D, hD, _⟩ := h
  exact hD.lt
theorem MapC.below {B : Nat} (h : MapC P k e w b n m) (hb : Below B w w') (hB : b < B) : MapC P k e w' b n m := by
  obtain ⟨D, ⟨es, clock, h1, h2, h3, h4⟩, hm, hp⟩ := h
  exact ⟨D, ⟨es, clock, by rw [hb.block b hB]; exact h1, h2, h3, h4⟩, hm, hp⟩
theorem MapC.drew (h : MapC P k e w b n m) : MapC P k e w.drew b n m := h
theorem MapC.drewN (h : MapC P k e w b n m) (q : Nat) : MapC P k e (w.drewN q) b n m := h
theorem MapC.alloc (h : MapC P k e w b n m) (o : Obj) : MapC P k e (w.alloc o) b n m := by
  obtain ⟨D, hD, r⟩ := h
  exact ⟨D, hD.alloc o, r⟩
theorem MapC.far (h : MapC P k e w b n m) {p : Addr} (hp : b ≠ p.block) (u : Value) : MapC P k e (w.setCell p u) b n m := by
  obtain ⟨D, hD, r⟩ := h
  exact ⟨D, hD.setCell hp u, r⟩
theorem MapC.mono (h : MapC P k e w b n m) {q : Nat} (hn : n ≤ q) : MapC P k e w b q m := by
  obtain ⟨D, hD, r⟩ := h
  exact ⟨D, hD.mono hn, r⟩
theorem SaysC.put {D : DataW Unit} (hm : IsMap D) (h : SaysC D m) (hu : UpK m) (key v : Int) : SaysC (D.put (.int .i64 key) (.lit (.int .i64 (cnt m key + v)))) (addC key v m) := by
  intro q z
  rw [lookC_add hu]
  by_cases e : q = key
  · rw [if_pos e, e, atKey_put_same hm (show WideAt.IsKeyLit (.int .i64 key) from trivial)]
  · rw [if_neg e, atKey_put_other (fun h => e (by injection h)), h q z]
def RanC (P : Program) (k e : TypeId) (w : World) (b r n : Nat) (m o : List Ct) (cnt : Nat) : Prop :=
  ∃ (D : DataW Unit) (left : Lit → Bool), w.ranges P k (plainElem P e) b r n D left cnt ∧ SaysC D m ∧ (∀ s : Ct, s ∈ o ↔ s ∈ m ∧ left (.int .i64 s.1) = false) ∧ o.Pairwise (fun x y => x.1 ≠ y.1) ∧ o.length + cnt ≤ n
section
variable {r cnt : Nat} {o : List Ct}
theorem RanC.kept (h : RanC P k e w b r n m o cnt) {row : Option Nat} (hg : w.grownBy w' row) (hb : some b ≠ row) (hr : some r ≠ row) : RanC P k e w' b r n m o cnt := by
  obtain ⟨D, left, h1, h2⟩ := h
  exact ⟨D, left, h1.kept hg hb hr, h2⟩
theorem RanC.alloc (h : RanC P k e w b r n m o cnt) (ob : Obj) : RanC P k e (w.alloc ob) b r n m o cnt := by
  obtain ⟨D, left, h1, h2⟩ := h
  exact ⟨D, left, h1.alloc ob, h2⟩
theorem RanC.set (h : RanC P k e w b r n m o cnt) {p : Addr} (hb : b ≠ p.block) (hr : r ≠ p.block) (u : Value) : RanC P k e (w.setCell p u) b r n m o cnt :=
  h.kept (row := some p.block) ⟨rfl, rfl, rfl, by simp, fun j _ hj => Below.heap_setCell _ _ _ _ (fun e => hj (by rw [e]))⟩ (fun e => hb (by injection e)) (fun e => hr (by injection e))
theorem RanC.lt (h : RanC P k e w b r n m o cnt) : r < w.heap.size := by
  obtain ⟨D, left, h1, h2⟩ := h
  exact h1.lt
theorem RanC.ne (h : RanC P k e w b r n m o cnt) : r ≠ b := by
  obtain ⟨D, left, h1, h2⟩ := h
  exact h1.ne
end
end
end Go.Proofs.YtjpbjghdplbdcaaGreatDoor
end
section
namespace Go.Proofs.YtjpbjghdplbdcaaGreatDoor
open Go.RowKit Go.Shelf Go.Maps
theorem cnt_in {m : List Ct} {B : Int} (hu : UpK m) (hB : 0 ≤ B) (h : ∀ p ∈ m, 1 ≤ p.2 ∧ p.2 ≤ B) (key : Int) : 0 ≤ cnt m key ∧ cnt m key ≤ B := by
  rw [cnt_lookC hu]
  cases hl : lookC key m with
  | none => exact ⟨Int.le_refl _, hB⟩
  | some v => have := h _ (lookC_mem hl); exact ⟨by show 0 ≤ v; omega, this.2⟩
section
variable {A : Option Addr} {n c : Nat} {l : List Ct} {w : World}
end
end Go.Proofs.YtjpbjghdplbdcaaGreatDoor
end
section
namespace Go.Proofs.YtjpbjghdplbdcaaGreatDoor
open Go.RowKit
structure DOk (s : DSt) : Prop where
  few : fwErr 3 s.lost s.ctrs.length s.ctrs = 0
  keys : ∀ p ∈ s.ctrs, I64 p.1
  rules : RlOk s.rules
  pond : pondErr 3 s.seen s.items.length = 0
  items : AllI64 s.items
  nums : botErr 3 s.nums.length s.nums = 0
def newD : DSt := ⟨0, [], [], 0, [], []⟩
theorem newD_ok : DOk newD := ⟨by decide, by simp [newD], RlOk.nil, by decide, by simp [newD, AllI64], by decide⟩
abbrev Said := Int × DSt × List UInt8
def pondS (s : DSt) (x d : Int) : Said :=
  if putErr 3 s.seen s.items.length d = 0 then (0, { s with seen := s.seen + 1, items := came 3 s.seen s.items x d }, toldOf (came 3 s.seen s.items x d)) else (putErr 3 s.seen s.items.length d, s, [])
def leastS (s : DSt) (x : Int) : Said :=
  if isDraw x = true then (0, { s with nums := (insU x s.nums).take 3 }, toldOf ((insU x s.nums).take 3)) else (1, s, [])
def manyS (s : DSt) : Said := (guE 3 s.nums.length s.nums, s, toldOf [guV 3 s.nums.length s.nums])
def minC : List Ct → Int
  | [] => 0
  | p :: l => l.foldl (fun a q => if q.2 < a then q.2 else a) p.2
def fewR (s : DSt) (key v : Int) : Int × Int × Int × List Ct :=
  if ((addC key v s.ctrs).length : Int) ≤ 3 then finC 3 s.lost (addC key v s.ctrs) else finC 3 (s.lost + minC (addC key v s.ctrs)) (lessC (minC (addC key v s.ctrs)) (addC key v s.ctrs))
def fewS (s : DSt) (key v : Int) : Said :=
  if v < 1 ∨ 1000000000000 < v then (1, s, [])
  else if (fewR s key v).1 = 0 then (0, { s with lost := (fewR s key v).2.2.1, ctrs := (fewR s key v).2.2.2 }, toldOf [((fewR s key v).2.2.2.length : Int), (fewR s key v).2.2.1])
  else ((fewR s key v).1, s, [])
def askS (s : DSt) (key : Int) : Said := (0, s, toldOf [cnt s.ctrs key, cnt s.ctrs key + s.lost])
def ruleS (s : DSt) (p : ByteArray) (a b : Int) : Said :=
  if (putOut (p, a, b) s.rules).1 = 0 then (0, { s with rules := (putOut (p, a, b) s.rules).2 }, [111, 107]) else ((putOut (p, a, b) s.rules).1, s, [])
def ofS (s : DSt) (name : ByteArray) : Said := ((askOut s.rules name).2, s, toldOf [(askOut s.rules name).1])

theorem fold_min : ∀ (l : List Ct) (a : Int), l.foldl (fun a q => if q.2 < a then q.2 else a) a ≤ a ∧ (∀ q ∈ l, l.foldl (fun a q => if q.2 < a then q.2 else a) a ≤ q.2) ∧ (l.foldl (fun a q => if q.2 < a then q.2 else a) a = a ∨ ∃ q ∈ l, l.foldl (fun a q => if q.2 < a then q.2 else a) a = q.2)
  | [], a => ⟨Int.le_refl _, fun _ h => by simp at h, .inl rfl⟩
  | p :: l, a => by
    rw [List.foldl_cons]
    obtain ⟨h1, h2, h3⟩ := fold_min l (if p.2 < a then p.2 else a)
    have ha : (if p.2 < a then p.2 else a) ≤ a ∧ (if p.2 < a then p.2 else a) ≤ p.2 := by split <;> omega
    refine ⟨by omega, fun q hq => ?_, ?_⟩
    · rcases List.mem_cons.1 hq with rfl | hq
      · omega
      · exact h2 q hq
    · rcases h3 with h3 | ⟨q, hq, h3⟩
      · rw [h3]
        split
        · exact .inr ⟨p, List.mem_cons_self, rfl⟩
        · exact .inl rfl
      · exact .inr ⟨q, List.mem_cons_of_mem _ hq, h3⟩
theorem minC_is {l : List Ct} {e : Int} (hm : ∃ p ∈ l, p.2 = e) (hl : ∀ q ∈ l, e ≤ q.2) : minC l = e := by
  cases l with
  | nil => obtain ⟨p, hp, _⟩ := hm; simp at hp
  | cons p l =>
    obtain ⟨h1, h2, h3⟩ := fold_min l p.2
    have hle : e ≤ minC (p :: l) := by
      show e ≤ l.foldl _ p.2
      rcases h3 with h3 | ⟨q, hq, h3⟩
      · rw [h3]; exact hl p List.mem_cons_self
      · rw [h3]; exact hl q (List.mem_cons_of_mem _ hq)
    obtain ⟨q, hq, e1⟩ := hm
    have hge : minC (p :: l) ≤ e := by
      rcases List.mem_cons.1 hq with rfl | hq
      · rw [← e1]; exact h1
      · rw [← e1]; exact h2 q hq
    omega
theorem came_len {S x d : Int} {xs : List Int} (h : putErr 3 S xs.length d = 0) : ((came 3 S xs x d).length : Int) = min 3 (S + 1) ∧ pondErr 3 (S + 1) (came 3 S xs x d).length = 0 := by
  obtain ⟨h1, h2, h3, h4⟩ := put_ok h
  obtain ⟨_, _, k3, k4, k5⟩ := pond_ok h1
  have hl : ((came 3 S xs x d).length : Int) = min 3 (S + 1) := by
    unfold came
    split
    · rw [List.length_append, List.length_singleton]; omega
    · split
      · rw [List.length_set]; omega
      · omega
  refine ⟨hl, ?_⟩
  unfold pondErr
  rw [if_neg (by omega), if_neg (by omega)]
theorem came_mem {S x d : Int} {xs : List Int} : ∀ z ∈ came 3 S xs x d, z = x ∨ z ∈ xs := by
  intro z hz
  unfold came at hz
  split at hz
  · rcases List.mem_append.1 hz with h | h
    · exact .inr h
    · exact .inl (List.mem_singleton.1 h)
  · split at hz
    · rcases List.mem_or_eq_of_mem_set hz with h | h
      · exact .inr h
      · exact .inl h
    · exact .inr hz
theorem pondS_ok {s : DSt} (h : DOk s) {x d : Int} (hx : I64 x) : DOk (pondS s x d).2.1 := by
  unfold pondS
  split
  · rename_i hp
    refine ⟨h.few, h.keys, h.rules, (came_len hp).2, fun z hz => ?_, h.nums⟩
    rcases came_mem z hz with rfl | hz
    · exact hx
    · exact h.items z hz
  · exact h
theorem botErr_up {zs : List Int} (hu : Up zs) (hd : ∀ z ∈ zs, 0 ≤ z ∧ z ≤ 72057594037927935) (hl : zs.length ≤ 3) : botErr 3 zs.length zs = 0 := by
  have hf : ∀ k, k ≤ zs.length → faultTo (botStep zs) k = 0 := by
    intro k
    induction k with
    | zero => exact fun _ => rfl
    | succ k ih =>
      intro hk
      refine faultTo_next (ih (by omega)) ?_
      have e : zs.getD k 0 = zs[k]'(by omega) := by simp [List.getD, List.getElem?_eq_getElem (show k < zs.length by omega)]
      have hz := hd _ (List.getElem_mem (show k < zs.length by omega))
      unfold botStep
      rw [e, if_pos (by unfold isDr; exact decide_eq_true hz)]
      by_cases h0 : k > 0
      · have e2 : zs.getD (k - 1) 0 = zs[k - 1]'(by omega) := by simp [List.getD, List.getElem?_eq_getElem (show k - 1 < zs.length by omega)]
        have h2 := (List.pairwise_iff_getElem.1 hu) (k - 1) k (by omega) (by omega) (by omega)
        rw [if_neg (by rw [e2]; omega)]
      · rw [if_neg (by omega)]
  unfold botErr
  rw [if_neg (by omega), if_neg (by omega)]
  exact hf _ (Nat.le_refl _)
theorem draw_in {x : Int} (h : isDraw x = true) : 0 ≤ x ∧ x ≤ 72057594037927935 := of_decide_eq_true h
theorem leastS_ok {s : DSt} (h : DOk s) (x : Int) : DOk (leastS s x).2.1 := by
  unfold leastS
  split
  · rename_i hx
    obtain ⟨_, _, _, hup, hdr⟩ := botErr_ok rfl h.nums
    refine ⟨h.few, h.keys, h.rules, h.pond, h.items, botErr_up ?_ (fun z hz => ?_) (by show ((insU x s.nums).take 3).length ≤ 3; rw [List.length_take]; omega)⟩
    · exact (insU_up hup).sublist (List.take_sublist _ _)
    · rcases (insU_mem x s.nums z).1 (List.mem_of_mem_take hz) with rfl | hz
      · exact draw_in hx
      · exact hdr z hz
  · exact h
theorem addC_key {key v : Int} {l : List Ct} (hk : I64 key) (h : ∀ p ∈ l, I64 p.1) : ∀ p ∈ addC key v l, I64 p.1 := by
  intro p hp
  rcases (addC_keys key v l p.1).1 (List.mem_map.2 ⟨p, hp, rfl⟩) with e | e
  · rw [e]; exact hk
  · obtain ⟨q, hq, e⟩ := List.mem_map.1 e
    rw [← e]; exact h q hq
theorem lessC_key {d : Int} {l : List Ct} (h : ∀ p ∈ l, I64 p.1) : ∀ p ∈ lessC d l, I64 p.1 := by
  intro p hp
  unfold lessC at hp
  obtain ⟨q, hq, rfl⟩ := List.mem_map.1 hp
  exact h q (List.mem_filter.1 hq).1
theorem finC_ok {K L : Int} {m : List Ct} (h : (finC K L m).1 = 0) : fwErr K (finC K L m).2.2.1 (finC K L m).2.2.2.length (finC K L m).2.2.2 = 0 ∧ (finC K L m).2.2.2 = m := by
  unfold finC at h ⊢
  split
  · rename_i h2; exact ⟨h2, rfl⟩
  · rename_i h2; rw [if_neg h2] at h; simp at h
theorem fewS_ok {s : DSt} (h : DOk s) {key : Int} (hk : I64 key) (v : Int) : DOk (fewS s key v).2.1 := by
  unfold fewS
  split
  · exact h
  · split
    · rename_i h1 h2
      have hr : fwErr 3 (fewR s key v).2.2.1 (fewR s key v).2.2.2.length (fewR s key v).2.2.2 = 0 ∧ ∀ p ∈ (fewR s key v).2.2.2, I64 p.1 := by
        unfold fewR at h2 ⊢
        split
        · rename_i h3
          rw [if_pos h3] at h2
          obtain ⟨e1, e2⟩ := finC_ok h2
          exact ⟨e1, by rw [e2]; exact addC_key hk h.keys⟩
        · rename_i h3
          rw [if_neg h3] at h2
          obtain ⟨e1, e2⟩ := finC_ok h2
          exact ⟨e1, by rw [e2]; exact lessC_key (addC_key hk h.keys)⟩
      exact ⟨hr.1, hr.2, h.rules, h.pond, h.items, h.nums⟩
    · exact h
theorem ruleS_ok {s : DSt} (h : DOk s) (p : ByteArray) (a b : Int) : DOk (ruleS s p a b).2.1 := by
  unfold ruleS
  split
  · rename_i h0
    refine ⟨h.few, h.keys, ?_, h.pond, h.items, h.nums⟩
    show RlOk (putOut (p, a, b) s.rules).2
    unfold putOut at h0 ⊢
    split
    · exact RlOk.nil
    · rename_i h1
      split
      · exact RlOk.nil
      · unfold jo
        split
        · exact RlOk.nil
        · rename_i h3
          refine ⟨by show (putR (p, a, b) s.rules).length ≤ 16; omega, putR_up h.rules.up, fun r hr => ?_⟩
          rcases putR_mem hr with rfl | hr
          · omega
          · exact h.rules.one r hr
  · exact h
def Did (w : World) (g : Nat) (r : Said) (e : Ending) (w' : World) : Prop := w.grownBy w' (some g) ∧ DeskAt w' g r.2.1 ∧ ((r.1 = 0 ∧ e = .returned (.string (tx r.2.2))) ∨ (r.1 ≠ 0 ∧ e = thrown r.1))
end Go.Proofs.YtjpbjghdplbdcaaGreatDoor
end
