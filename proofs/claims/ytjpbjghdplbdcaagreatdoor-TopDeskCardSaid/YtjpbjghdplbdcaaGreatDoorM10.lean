/- Proves the parts of the claim that its last text joins: BoardQ, Gen, Few1, Rev. Conditions: those that each theorem names. -/
import Derived.Test.YtjpbjghdplbdcaaGreatDoorM09
import Derived.Test.YtjpbjghdplbdcaaGreatDoorM04
import Derived.Lib.SliceRun
import Derived.Test.YtjpbjghdplbdcaaGreatDoorM05
import Derived.Test.YtjpbjghdplbdcaaGreatDoorM02
import Derived.Test.YtjpbjghdplbdcaaGreatDoorM01
import Derived.WalkKit
import Derived.WalkSpells
import Derived.Deep.QuietTactic
import Derived.BigQuiet
import Derived.Outline
import Derived.Deep.Cut
import Derived.Test.YtjpbjghdplbdcaaGreatDoorProg
import Derived.KernelRfl
import Derived.Laws.Cover1
section
namespace Go.Proofs.YtjpbjghdplbdcaaGreatDoor
theorem newer_asymm {r s : Rul} (h : newer r s = true) : newer s r = false := by
  unfold newer at h ⊢
  have := of_decide_eq_true h
  exact decide_eq_false (by omega)
theorem newer_or {r s : Rul} (h : r.1 = s.1) : newer r s = true ∨ newer s r = true ∨ r = s := by
  unfold newer
  by_cases h1 : s.2.2 < r.2.2 ∨ r.2.2 = s.2.2 ∧ s.2.1 < r.2.1
  · exact .inl (decide_eq_true h1)
  · by_cases h2 : r.2.2 < s.2.2 ∨ s.2.2 = r.2.2 ∧ r.2.1 < s.2.1
    · exact .inr (.inl (decide_eq_true h2))
    · refine .inr (.inr ?_)
      obtain ⟨a, b, c⟩ := r
      obtain ⟨a2, b2, c2⟩ := s
      dsimp only at h h1 h2
      rw [h, show b = b2 by omega, show c = c2 by omega]
def oldR (r : Rul) (l : List Rul) : Bool := match look r.1 l with | some s => newer s r | none => false
def jo (m : List Rul) : Int × List Rul := if 16 < m.length then (2, []) else (0, m)
def putOut (r : Rul) (l : List Rul) : Int × List Rul := if oneErr r ≠ 0 then (oneErr r, []) else if oldR r l = true then (8, []) else jo (putR r l)
section
variable {l : List Rul} {r s : Rul}
theorem put_bad (h : oneErr r ≠ 0) : putOut r l = (oneErr r, []) := by unfold putOut; rw [if_pos h]
theorem put_old (h1 : oneErr r = 0) (hs : look r.1 l = some s) (hn : newer s r = true) : putOut r l = (8, []) := by
  unfold putOut oldR
  rw [if_neg (by rw [h1]; simp), hs, if_pos hn]
theorem put_new (hl : RlOk l) (h1 : oneErr r = 0) (hp : l[posR r.1 l]? = some s) (he : s.1 = r.1) (hn : newer r s = true) : putOut r l = (0, l.set (posR r.1 l) r) := by
  have hk : look r.1 l = some s := by rw [look_at r.1 hl.up, hp]; dsimp only; rw [if_pos he]
  have hm := hl.len
  have ho : oldR r l = false := by unfold oldR; rw [hk]; exact newer_asymm hn
  unfold putOut jo
  rw [if_neg (by rw [h1]; simp), ho, if_neg (by simp)]
  have e : putR r l = l.set (posR r.1 l) r := by
    rw [putR_at r hl.up, hp]
    dsimp only
    rw [if_pos he, if_pos hn]
  rw [e, if_neg (by rw [List.length_set]; omega)]
theorem put_same (hl : RlOk l) (h1 : oneErr r = 0) (hp : l[posR r.1 l]? = some r) : putOut r l = (0, l) := by
  have hk : look r.1 l = some r := by rw [look_at r.1 hl.up, hp]; dsimp only; rw [if_pos rfl]
  have hm := hl.len
  have hn : newer r r = false := by
    cases h : newer r r with
    | false => rfl
    | true => have := newer_asymm h; rw [h] at this; exact this
  have ho : oldR r l = false := by unfold oldR; rw [hk]; exact hn
  unfold putOut jo
  rw [if_neg (by rw [h1]; simp), ho, if_neg (by simp), putR_old hl.up hk hn, if_neg (by omega)]
theorem putR_none (hu : UpR l) (hk : look r.1 l = none) : putR r l = l.take (posR r.1 l) ++ r :: l.drop (posR r.1 l) := by
  rw [putR_at r hu]
  rw [look_at r.1 hu] at hk
  cases h : l[posR r.1 l]? with
  | none => rfl
  | some s =>
    rw [h] at hk
    dsimp only at hk ⊢
    split at hk
    · cases hk
    · rw [if_neg (by assumption)]
theorem put_in (hl : RlOk l) (h1 : oneErr r = 0) (hk : look r.1 l = none) (hn : l.length < 16) : putOut r l = (0, l.take (posR r.1 l) ++ r :: l.drop (posR r.1 l)) := by
  have hp := posR_le r.1 l
  have ho : oldR r l = false := by unfold oldR; rw [hk]
  unfold putOut jo
  rw [if_neg (by rw [h1]; simp), ho, if_neg (by simp), putR_none hl.up hk, if_neg (by rw [List.length_append, List.length_take, List.length_cons, List.length_drop]; omega)]
theorem put_full (hl : RlOk l) (h1 : oneErr r = 0) (hk : look r.1 l = none) (hn : l.length = 16) : putOut r l = (2, []) := by
  have hp := posR_le r.1 l
  have ho : oldR r l = false := by unfold oldR; rw [hk]
  unfold putOut jo
  rw [if_neg (by rw [h1]; simp), ho, if_neg (by simp), putR_none hl.up hk, if_pos (by rw [List.length_append, List.length_take, List.length_cons, List.length_drop]; omega)]
end
theorem RlOk.nil : RlOk [] := ⟨by simp, List.Pairwise.nil, fun _ h => by cases h⟩
theorem RlOk.small {l : List Rul} (h : RlOk l) {r : Rul} (hr : r ∈ l) : r.1.size ≤ 16 ∧ 0 ≤ r.2.1 := by
  have h1 := h.one r hr
  unfold oneErr at h1
  by_cases hp : preBad r.1 = true
  · rw [if_pos hp] at h1; omega
  · rw [if_neg hp] at h1
    by_cases ha : argBad r
    · rw [if_pos ha] at h1; omega
    · constructor
      · unfold preBad at hp
        simp only [Bool.or_eq_true, decide_eq_true_eq, not_or] at hp
        omega
      · unfold argBad at ha
        omega
def hasPre (s p : ByteArray) : Bool := decide (p.size ≤ s.size) && ((s.extract 0 p.size).toList == p.toList)
theorem hasPre_iff (s p : ByteArray) : hasPre s p = true ↔ p.size ≤ s.size ∧ s.extract 0 p.size = p := by
  unfold hasPre
  rw [Bool.and_eq_true, decide_eq_true_eq, beq_iff_eq, ByteArray.toList_eq, ByteArray.toList_eq]
  exact ⟨fun ⟨a, b⟩ => ⟨a, by8_inj b⟩, fun ⟨a, b⟩ => ⟨a, by rw [b]⟩⟩
def askDown (l : List Rul) (name : ByteArray) : Nat → Int
  | 0 => match look (name.extract 0 0) l with | some r => r.2.1 | none => -1
  | n + 1 => match look (name.extract 0 (n + 1)) l with | some r => r.2.1 | none => askDown l name n
structure Best (l : List Rul) (name : ByteArray) (k : Nat) (o : Option Nat) : Prop where
  none_ : o = none → ∀ j r, j < k → l[j]? = some r → hasPre name r.1 = false
  some_ : ∀ i, o = some i → i < k ∧ ∃ r, l[i]? = some r ∧ hasPre name r.1 = true ∧ ∀ j q, j < k → l[j]? = some q → hasPre name q.1 = true → q.1.size ≤ r.1.size
theorem Best.start (l : List Rul) (name : ByteArray) : Best l name 0 none := ⟨fun _ _ _ h => absurd h (by omega), fun _ h => by cases h⟩
section
variable {l : List Rul} {name : ByteArray} {k i : Nat} {o : Option Nat} {r s : Rul}
theorem Best.skip (h : Best l name k o) (hr : l[k]? = some r) (hp : hasPre name r.1 = false) : Best l name (k + 1) o := by
  refine ⟨fun ho j q hj hq => ?_, fun i ho => ?_⟩
  · by_cases e : j = k
    · subst e; rw [hr] at hq; injection hq with hq; subst hq; exact hp
    · exact h.none_ ho j q (by omega) hq
  · obtain ⟨h1, t, h2, h3, h4⟩ := h.some_ i ho
    refine ⟨by omega, t, h2, h3, fun j q hj hq hpq => ?_⟩
    by_cases e : j = k
    · subst e; rw [hr] at hq; injection hq with hq; subst hq; rw [hp] at hpq; cases hpq
    · exact h4 j q (by omega) hq hpq
theorem Best.keep (h : Best l name k (some i)) (hr : l[k]? = some r) (hi : l[i]? = some s) (hle : r.1.size ≤ s.1.size) : Best l name (k + 1) (some i) := by
  refine ⟨fun ho => (by cases ho), fun i' ho => ?_⟩
  injection ho with ho
  subst ho
  obtain ⟨h1, t, h2, h3, h4⟩ := h.some_ i rfl
  refine ⟨by omega, t, h2, h3, fun j q hj hq hpq => ?_⟩
  rw [hi] at h2
  injection h2 with h2
  subst h2
  by_cases e : j = k
  · subst e; rw [hr] at hq; injection hq with hq; subst hq; exact hle
  · exact h4 j q (by omega) hq hpq
theorem Best.first (h : Best l name k none) (hr : l[k]? = some r) (hp : hasPre name r.1 = true) : Best l name (k + 1) (some k) := by
  refine ⟨fun ho => (by cases ho), fun i' ho => ?_⟩
  injection ho with ho
  subst ho
  refine ⟨by omega, r, hr, hp, fun j q hj hq hpq => ?_⟩
  by_cases e : j = k
  · subst e; rw [hr] at hq; injection hq with hq; subst hq; exact Nat.le_refl _
  · rw [h.none_ rfl j q (by omega) hq] at hpq; cases hpq
theorem Best.more (h : Best l name k (some i)) (hr : l[k]? = some r) (hp : hasPre name r.1 = true) (hi : l[i]? = some s) (hlt : s.1.size < r.1.size) : Best l name (k + 1) (some k) := by
  refine ⟨fun ho => (by cases ho), fun i' ho => ?_⟩
  injection ho with ho
  subst ho
  obtain ⟨h1, t, h2, h3, h4⟩ := h.some_ i rfl
  rw [hi] at h2
  injection h2 with h2
  subst h2
  refine ⟨by omega, r, hr, hp, fun j q hj hq hpq => ?_⟩
  by_cases e : j = k
  · subst e; rw [hr] at hq; injection hq with hq; subst hq; exact Nat.le_refl _
  · have := h4 j q (by omega) hq hpq; omega
theorem size_ext (name : ByteArray) {n : Nat} (h : n ≤ name.size) : (name.extract 0 n).size = n := by rw [ByteArray.size_extract]; omega
theorem pre_ext (name : ByteArray) {n : Nat} (h : n ≤ name.size) : hasPre name (name.extract 0 n) = true := by rw [hasPre_iff, size_ext name h]; exact ⟨h, rfl⟩
theorem Best.none_ask (h : Best l name l.length none) : ∀ n, n ≤ name.size → askDown l name n = -1 := by
  have hl : ∀ n, n ≤ name.size → look (name.extract 0 n) l = none := by
    intro n hn
    cases hk : look (name.extract 0 n) l with
    | none => rfl
    | some s =>
      obtain ⟨h1, h2⟩ := look_mem hk
      obtain ⟨j, hj⟩ := List.getElem?_of_mem h1
      have := h.none_ rfl j s (List.getElem?_eq_some_iff.1 hj).1 hj
      rw [h2, pre_ext name hn] at this
      cases this
  intro n
  induction n with
  | zero => intro hn; unfold askDown; rw [hl 0 hn]
  | succ n ih => intro hn; unfold askDown; rw [hl _ hn]; exact ih (by omega)
theorem Best.some_ask (h : Best l name l.length (some i)) (hu : UpR l) (hr : l[i]? = some r) : ∀ n, n ≤ name.size → r.1.size ≤ n → askDown l name n = r.2.1 := by
  obtain ⟨h1, t, h2, h3, h4⟩ := h.some_ i rfl
  rw [hr] at h2
  injection h2 with h2
  subst h2
  obtain ⟨h5, h6⟩ := (hasPre_iff _ _).1 h3
  have hat : look (name.extract 0 r.1.size) l = some r := look_of hu (List.mem_of_getElem? hr) h6.symm
  have hno : ∀ n, n ≤ name.size → r.1.size < n → look (name.extract 0 n) l = none := by
    intro n hn hlt
    cases hk : look (name.extract 0 n) l with
    | none => rfl
    | some s =>
      obtain ⟨e1, e2⟩ := look_mem hk
      obtain ⟨j, hj⟩ := List.getElem?_of_mem e1
      have := h4 j s (List.getElem?_eq_some_iff.1 hj).1 hj (by rw [e2]; exact pre_ext name hn)
      rw [e2, size_ext name hn] at this
      omega
  intro n
  induction n with
  | zero =>
    intro hn hle
    unfold askDown
    rw [show r.1.size = 0 by omega] at hat
    rw [hat]
  | succ n ih =>
    intro hn hle
    unfold askDown
    by_cases e : r.1.size = n + 1
    · rw [e] at hat; rw [hat]
    · rw [hno _ hn (by omega)]; exact ih (by omega) (by omega)
end
def askOut (l : List Rul) (name : ByteArray) : Int × Int := if 200 < name.size then (0, 2) else if 0 ≤ askDown l name name.size then (askDown l name name.size, 0) else (0, 4)
end Go.Proofs.YtjpbjghdplbdcaaGreatDoor
end
section
namespace Go.Proofs.YtjpbjghdplbdcaaGreatDoor
open Go.RowKit
theorem grown_set (w : World) (g j : Nat) (u : Value) : w.grownBy (w.setCell ⟨g, j, none⟩ u) (some g) := by
  have b : Below 0 w (w.setCell ⟨g, j, none⟩ u) := (Below.refl 0 w).setCell (Nat.zero_le _) u
  exact ⟨b.os, b.tape, b.output, b.size, fun k _ hk => Below.heap_setCell _ _ _ _ (fun e => hk (by rw [e]))⟩
def layAt : List Value → Nat → List Value → List Value
  | xs, _, [] => xs
  | xs, o, v :: vs => layAt (xs.set o v) (o + 1) vs
section
variable {w : World} {base size n c g : Nat} {e : TypeId} {xs : List Value}
theorem Own.setCells : ∀ (vs : List Value) (o : Nat) (w : World) (xs : List Value), Own w base e size (some ⟨g, 0, none⟩) n c xs →
    Own (w.setCells g o vs) base e size (some ⟨g, 0, none⟩) n c (layAt xs o vs) ∧ w.grownBy (w.setCells g o vs) (some g)
  | [], _, _, _, h => ⟨h, World.grownBy.refl _ _⟩
  | v :: vs, o, w, xs, h => by
    obtain ⟨h1, h2⟩ := Own.setCells vs (o + 1) _ _ (h.set o v)
    exact ⟨h1, (grown_set w g o v).trans h2⟩
end
end Go.Proofs.YtjpbjghdplbdcaaGreatDoor
end
section
namespace Go.Proofs.YtjpbjghdplbdcaaGreatDoor
open Go.RowKit
theorem ct_bad {l : List Ct} {k : Nat} {x : Ct} (h : l[k]? = some x) (h1 : x.2 < 1 ∨ 1000000000000 < x.2) : ctStep l k = 1 := by unfold ctStep; rw [cAt_of h, if_pos h1]
theorem ct_first {l : List Ct} {x : Ct} (h : l[0]? = some x) (h1 : ¬ (x.2 < 1 ∨ 1000000000000 < x.2)) : ctStep l 0 = 0 := by unfold ctStep; rw [cAt_of h, if_neg h1, if_neg (by omega)]
theorem ct_next {l : List Ct} {k : Nat} {x y : Ct} (h : l[k]? = some x) (hy : l[k - 1]? = some y) (hk : 0 < k) (h1 : ¬ (x.2 < 1 ∨ 1000000000000 < x.2)) : ctStep l k = if x.1 ≤ y.1 then 3 else 0 := by
  unfold ctStep
  rw [cAt_of h, cAt_of hy, if_neg h1]
  by_cases hc : x.1 ≤ y.1
  · rw [if_pos ⟨hk, hc⟩, if_pos hc]
  · rw [if_neg (by omega), if_neg hc]
theorem fw_at {K L : Int} {n k : Nat} {l : List Ct} {E : Int} (h1 : ¬ fwBad K L) (h2 : ¬ K < n) (hk : k < n) (h0 : faultTo (ctStep l) k = 0) (he : ctStep l k = E) (hE : E ≠ 0) : fwErr K L n l = E := by
  unfold fwErr
  rw [if_neg h1, if_neg h2]
  exact faultTo_bad h0 he hE n hk
abbrev Sp (w : World) (A : Option Addr) (n c : Nat) (l : List Ct) : Prop := Sl w w.heap.size 2 A n c (prs l)
section
variable {A : Option Addr} {n c : Nat} {l : List Ct} {w : World}
set_option maxRecDepth 20000 in
set_option maxHeartbeats 6400000 in
theorem fcheck_any (K L : Int) (h : Sp w A n c l) :
    Calls Tryz.prog 242 #[.agg #[.int .i64 K, .int .i64 L, .slice A n c]] w fun e w' => e = .returned (.int .i64 (fwErr K L n l)) ∧ Below w.heap.size w w' := by
  have hm := h.len_max
  have HL := hide h.plen
  have bp0 := Blk.new w 42 #[.int .i64 K, .int .i64 L, .slice A n c]
  have hb0 : Below w.heap.size w (w.alloc (.cells #[.int .i64 K, .int .i64 L, .slice A n c] 42)) := by repeat' (first | assumption | with_reducible exact Below.refl _ _ | with_reducible apply Below.drew | with_reducible apply below_drewN | with_reducible apply below_alloc | with_reducible refine below_set ?_ ?_ _ | (simp only [World.size_alloc, World.heap_drewN]; omega) | (simp; omega))
  by_cases hbad : fwBad K L
  · have HE := hide (show fwErr K L n l = 1 from if_pos hbad)
    unfold fwBad at hbad
    by_cases c1 : K < 1
    · clear hbad
      go_enter Tryz.func242, Tryz.ntmps242
      go_wp2_with fail
      rw [HE.out]
      go_ret
      exact ⟨rfl, hb0⟩
    · by_cases c2 : 16 < K
      · clear hbad
        go_enter Tryz.func242, Tryz.ntmps242
        go_wp2_with fail
        rw [HE.out]
        go_ret
        exact ⟨rfl, hb0⟩
      · by_cases c3 : L < 0
        · clear hbad
          go_enter Tryz.func242, Tryz.ntmps242
          go_wp2_with fail
          rw [HE.out]
          go_ret
          exact ⟨rfl, hb0⟩
        · have c4 : 1000000000000 < L := by omega
          clear hbad
          go_enter Tryz.func242, Tryz.ntmps242
          go_wp2_with fail
          rw [HE.out]
          go_ret
          exact ⟨rfl, hb0⟩
  · have HB := hide hbad
    have hb' := hbad
    unfold fwBad at hb'
    have c1 : ¬ K < 1 := by omega
    have c2 : ¬ 16 < K := by omega
    have c3 : ¬ L < 0 := by omega
    have c4 : ¬ 1000000000000 < L := by omega
    clear hb'
    by_cases hlen : K < n
    · have HE := hide (show fwErr K L n l = 2 by unfold fwErr; rw [if_neg HB.out, if_pos hlen])
      clear hbad
      go_enter Tryz.func242, Tryz.ntmps242
      go_wp2_with fail
      rw [HE.out]
      go_ret
      exact ⟨rfl, hb0⟩
    · have HN := hide (show (n : Int) ≤ K by omega)
      clear hbad
      go_enter Tryz.func242, Tryz.ntmps242
      go_wp2_with fail
      go_loopw [32] (fun i wr => ∃ k : Nat, k ≤ n ∧ i = .int .i64 k ∧ Hid (faultTo (ctStep l) k = 0) ∧ Blk wr w.heap.size 42 #[.int .i64 K, .int .i64 L, .slice A n c] ∧ Below w.heap.size w wr) (fun i _ => n - (intOf i).toNat)
      case atStart => exact ⟨0, Nat.zero_le _, rfl, hide rfl, bp0, hb0⟩
      case round =>
        clear bp0 hb0
        obtain ⟨k, hk, rfl, HK, bp, hb⟩ := hrel
        by_cases hlt : k < n
        · obtain ⟨ad, x, rfl, hbk, hx, hc0, hc1⟩ := (h.below hb).pcell hlt
          have HX := hide hx
          clear hx
          obtain ⟨x1, x2⟩ := x
          dsimp only at hc0 hc1
          have bq := Blk.new wr 128 #[.int .i64 x1, .int .i64 x2]
          have bp2 := bp.alloc (.cells #[.int .i64 x1, .int .i64 x2] 128)
          have hb2 := below_alloc hb (.cells #[.int .i64 x1, .int .i64 x2] 128)
          have q0 := bq.at_ (i := 0) (u := .int .i64 x1) rfl
          have q1 := bq.at_ (i := 1) (u := .int .i64 x2) rfl
          have p2 := bp2.at_ (i := 2) (u := .slice (some ad) n c) rfl
          by_cases hbd : x2 < 1 ∨ 1000000000000 < x2
          · have HF := hide (fw_at HB.out (Int.not_lt.2 HN.out) hlt HK.out (ct_bad HX.out hbd) (by decide))
            by_cases d1 : x2 < 1
            · clear hbd
              go_wp2_with fail
              rw [HF.out]
              go_ret
              exact ⟨rfl, hb2⟩
            · have d2 : 1000000000000 < x2 := by omega
              clear hbd
              go_wp2_with fail
              rw [HF.out]
              go_ret
              exact ⟨rfl, hb2⟩
          · have d1 : ¬ x2 < 1 := by omega
            have d2 : ¬ 1000000000000 < x2 := by omega
            by_cases hk0 : k = 0
            · have HS := hide (faultTo_next HK.out (show ctStep l k = 0 by subst hk0; exact ct_first HX.out hbd))
              have t0 : decide (0 < (k : Int)) = false := by rw [hk0]; rfl
              have t1 : ¬ 0 < (k : Int) := by omega
              have t4 : ¬ 0 < k := by omega
              have t5 : decide (0 < k) = false := decide_eq_false t4
              clear hk0 hbd
              go_upto_region 10 with fail
              clear bq hc0 hc1
              generalize (wr.alloc (.cells #[.int .i64 x1, .int .i64 x2] 128)) = wz at q0 q1 p2 bp2 hb2 ⊢
              go_quiet (fail)
              go_wp2_with fail
              go_roundw
              case rel => exact ⟨k + 1, by omega, by go_num, HS, bp2.drewN _, by repeat' (first | assumption | with_reducible exact Below.refl _ _ | with_reducible apply Below.drew | with_reducible apply below_drewN | with_reducible apply below_alloc | with_reducible refine below_set ?_ ?_ _ | (simp only [World.size_alloc, World.heap_drewN]; omega) | (simp; omega))⟩
              case measure => simp [intOf]; omega
            · obtain ⟨m, hkm⟩ : ∃ m : Nat, k = m + 1 := ⟨k - 1, by omega⟩
              obtain ⟨ad', y, had, hbk', hy, hy0, hy1⟩ := (h.below hb2).pcell (j := m) (by omega)
              injection had with had
              subst had
              have HC := hide (ct_next (l := l) (k := k) HX.out (by rw [hkm]; exact hy) (by omega) hbd)
              have t0 : decide (0 < (k : Int)) = true := decide_eq_true (by omega)
              have t1 : 0 < (k : Int) := by omega
              have t4 : 0 < k := by omega
              have t5 : decide (0 < k) = true := decide_eq_true t4
              have t2 : IntKind.i64.wrap (m : Int) = (m : Int) := IntWalk.i64_in _ (by omega)
              have t3 : (k : Int) - 1 = (m : Int) := by omega
              have hmn : m < n := by omega
              obtain ⟨y1, y2⟩ := y
              dsimp only at hy0 hy1 HC
              clear hk0 hbd hy hkm
              by_cases hle : x1 ≤ y1
              · have HF := hide (fw_at HB.out (Int.not_lt.2 HN.out) hlt HK.out (HC.out.trans (if_pos hle)) (by decide))
                have t6 : decide (x1 ≤ y1) = true := decide_eq_true hle
                go_upto_region 10 with fail
                clear bq hc0 hc1
                generalize (wr.alloc (.cells #[.int .i64 x1, .int .i64 x2] 128)) = wz at q0 q1 p2 bp2 hb2 hy0 hy1 ⊢
                go_quiet (fail)
                go_wp2_with fail
                rw [HF.out]
                go_ret
                exact ⟨rfl, by repeat' (first | assumption | with_reducible exact Below.refl _ _ | with_reducible apply Below.drew | with_reducible apply below_drewN | with_reducible apply below_alloc | with_reducible refine below_set ?_ ?_ _ | (simp only [World.size_alloc, World.heap_drewN]; omega) | (simp; omega))⟩
              · have HS := hide (faultTo_next HK.out (HC.out.trans (if_neg hle)))
                have t6 : decide (x1 ≤ y1) = false := decide_eq_false hle
                go_upto_region 10 with fail
                clear bq hc0 hc1
                generalize (wr.alloc (.cells #[.int .i64 x1, .int .i64 x2] 128)) = wz at q0 q1 p2 bp2 hb2 hy0 hy1 ⊢
                go_quiet (fail)
                go_wp2_with fail
                go_roundw
                case rel => exact ⟨k + 1, by omega, by go_num, HS, bp2.drewN _, by repeat' (first | assumption | with_reducible exact Below.refl _ _ | with_reducible apply Below.drew | with_reducible apply below_drewN | with_reducible apply below_alloc | with_reducible refine below_set ?_ ?_ _ | (simp only [World.size_alloc, World.heap_drewN]; omega) | (simp; omega))⟩
                case measure => simp [intOf]; omega
        · obtain rfl : k = n := by omega
          have HE := hide (show fwErr K L k l = 0 by unfold fwErr; rw [if_neg HB.out, if_neg (Int.not_lt.2 HN.out)]; exact HK.out)
          go_wp2_with fail
          rw [HE.out]
          go_ret
          exact ⟨rfl, hb⟩
end
end Go.Proofs.YtjpbjghdplbdcaaGreatDoor
end
section
namespace Go.Proofs.YtjpbjghdplbdcaaGreatDoor
open Go.RowKit
section
variable {W : World} {b : Nat} {V : Value}
theorem entersF {f : FuncId} {fn : Func} {c : Code} (hf : Tryz.prog.funcs[f]? = some fn) (hname : (fn.name == "runtime.NumGoroutine") = false) (hb : fn.body = some c) (args : Array Value) (W : World) :
    (callFunc f args).run Tryz.prog W = .ok (.enter f args) W := by
  have h1 : fn.name ≠ "runtime.NumGoroutine" := by simpa using hname
  simp [callFunc, hf, h1, hb, mark]
end
structure RS (W : World) (b g N c base : Nat) (zs : List Int) : Prop where
  box : Blk W b 231 #[.iface 184 (.slice (some ⟨g, 0, none⟩) N c)]
  own : Own W base 3 1 (some ⟨g, 0, none⟩) N c (ints zs)
section
variable {W W' : World} {b g N c base : Nat} {zs : List Int}
theorem RS.cell (h : RS W b g N c base zs) : W.cell? ⟨b, 0, none⟩ = some (.iface 184 (.slice (some ⟨g, 0, none⟩) N c)) := h.box.at_ rfl
theorem RS.len (h : RS W b g N c base zs) : zs.length = N := h.own.sl.ilen
theorem RS.drewN (h : RS W b g N c base zs) (q : Nat) : RS (W.drewN q) b g N c base zs := ⟨h.box, h.own⟩
theorem RS.below (h : RS W b g N c base zs) (hb : Below W.heap.size W W') : RS W' b g N c base zs := ⟨h.box.below hb h.box.lt, h.own.below hb (Nat.le_refl _)⟩
theorem RS.ne (h : RS W b g N c base zs) (hN : 0 < N) : b ≠ g := by
  intro e
  subst e
  obtain ⟨g', e1, _, _⟩ := h.own.addr hN
  rcases h.own.2 with ⟨hv, _⟩ | ⟨g2, cap, cur, hv, _, hh, _⟩
  · cases hv
  · injection hv with h1
    injection h1 with h1
    injection h1 with h1
    subst h1
    have hb := h.box
    unfold Blk at hb
    rw [hh] at hb
    injection hb with hb
    injection hb with _ he
    exact absurd he (by decide)
end
end Go.Proofs.YtjpbjghdplbdcaaGreatDoor
end
