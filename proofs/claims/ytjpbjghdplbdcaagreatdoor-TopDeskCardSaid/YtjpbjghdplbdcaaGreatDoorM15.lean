/- Proves the parts of the claim that its last text joins: StateP, Hexa3, State, State2, Seen, State3. Conditions: those that each theorem names. -/
import Derived.Test.YtjpbjghdplbdcaaGreatDoorM02
import Derived.Test.YtjpbjghdplbdcaaGreatDoorM05
import Derived.Test.YtjpbjghdplbdcaaGreatDoorM14
import Derived.Test.YtjpbjghdplbdcaaGreatDoorM01
import Derived.Shelf.Strings.Trim
import Derived.Shelf.Small.Strs
import Derived.Maps.OwnOps
import Derived.Maps.Views
import Derived.Sort.KeysCollected
import Derived.Carry
import Derived.StringKeys
import Derived.Test.YtjpbjghdplbdcaaGreatDoorM04
section
namespace Go.Proofs.YtjpbjghdplbdcaaGreatDoor
abbrev bl (s : ByteArray) : List UInt8 := s.data.toList
def isKc (c : UInt8) : Bool := decide (97 ≤ c.toNat ∧ c.toNat ≤ 122 ∨ 48 ≤ c.toNat ∧ c.toNat ≤ 57)
def isVc (c : UInt8) : Bool := decide (33 ≤ c.toNat ∧ c.toNat ≤ 126 ∧ c.toNat ≠ 44 ∧ c.toNat ≠ 61 ∧ c.toNat ≠ 59)
def kcTo (l : List UInt8) (k : Nat) : Bool := okTo (fun i => isKc (l.getD i 0)) k
def vcTo (l : List UInt8) (k : Nat) : Bool := okTo (fun i => isVc (l.getD i 0)) k
def keyOk (l : List UInt8) : Bool := decide (1 ≤ l.length ∧ l.length ≤ 16) && kcTo l l.length
def valOk (l : List UInt8) : Bool := decide (l.length ≠ 0) && vcTo l l.length
def dupAt (ps : List Pr) (i : Nat) : Bool := (ps.take i).any fun p => decide (p.1 = (ps.getD i (ByteArray.empty, ByteArray.empty)).1)
def prStep (ps : List Pr) (i : Nat) : Int :=
  let p := ps.getD i (ByteArray.empty, ByteArray.empty)
  if keyOk (bl p.1) = true ∧ valOk (bl p.2) = true then (if dupAt ps i = true then 5 else 0) else 3
def prErr (n : Nat) (ps : List Pr) : Int := if 40 < n then 2 else faultTo (prStep ps) n
theorem prStep_form {ps : List Pr} {i : Nat} {p : Pr} (h : ps[i]? = some p) (hk : ¬ (keyOk (bl p.1) = true ∧ valOk (bl p.2) = true)) : prStep ps i = 3 := by
  unfold prStep; simp only [getD_of h]; rw [if_neg hk]
theorem prStep_there {ps : List Pr} {i : Nat} {p : Pr} (h : ps[i]? = some p) (hk : keyOk (bl p.1) = true) (hv : valOk (bl p.2) = true) (hd : dupAt ps i = true) : prStep ps i = 5 := by
  unfold prStep; simp only [getD_of h]; rw [if_pos ⟨hk, hv⟩, if_pos hd]
theorem prStep_ok {ps : List Pr} {i : Nat} {p : Pr} (h : ps[i]? = some p) (hk : keyOk (bl p.1) = true) (hv : valOk (bl p.2) = true) (hd : dupAt ps i = false) : prStep ps i = 0 := by
  unfold prStep; simp only [getD_of h]; rw [if_pos ⟨hk, hv⟩, if_neg (by rw [hd]; simp)]
theorem prErr_ok {n : Nat} {ps : List Pr} (hl : ps.length = n) (h : prErr n ps = 0) : n ≤ 40 ∧ ∀ p ∈ ps, keyOk (bl p.1) = true ∧ valOk (bl p.2) = true := by
  unfold prErr at h
  by_cases h1 : 40 < n
  · rw [if_pos h1] at h; omega
  · rw [if_neg h1] at h
    refine ⟨by omega, fun p hp => ?_⟩
    obtain ⟨i, hi⟩ := List.getElem?_of_mem hp
    have h2 := faultTo_all n h i (by rw [← hl]; exact (List.getElem?_eq_some_iff.1 hi).1)
    by_cases hk : keyOk (bl p.1) = true ∧ valOk (bl p.2) = true
    · exact hk
    · rw [prStep_form hi hk] at h2; omega
def prText (p : Pr) : List UInt8 := bl p.1 ++ 61 :: bl p.2
def txTo (ps : List Pr) : Nat → List UInt8
  | 0 => []
  | k + 1 => txTo ps k ++ (if k = 0 then [] else [44]) ++ prText (ps.getD k (ByteArray.empty, ByteArray.empty))
def rdPair (l : List UInt8) : Pr := (⟨(cutB 61 l).toArray⟩, ⟨(cutA 61 l).toArray⟩)
def rdAll (s : List UInt8) : List Pr := (pieces 44 s).map rdPair
def rdOk (s : List UInt8) : Bool := (pieces 44 s).all (cutOk 61)
def rdErr (s : List UInt8) : Int := if 200 < s.length then 2 else if s.length = 0 then 0 else if rdOk s = true then prErr (rdAll s).length (rdAll s) else 3
def rdRes (s : List UInt8) : List Pr := if rdErr s = 0 then (if s.length = 0 then [] else rdAll s) else []
def whole (s : List UInt8) : List (List UInt8) := (pieces 44 s).dropLast
def last (s : List UInt8) : List UInt8 := (pieces 44 s).getLastD []
end Go.Proofs.YtjpbjghdplbdcaaGreatDoor
end
section
namespace Go.Proofs.YtjpbjghdplbdcaaGreatDoor
open Go.RowKit Go.Shelf
theorem empty_yes : (tx []).toList.isEmpty = true := by rw [ByteArray.toList_eq]; rfl
theorem empty_no {l : List UInt8} (h : ¬ l = []) : (tx l).toList.isEmpty = false := by rw [ByteArray.toList_eq]; simpa [tx] using h
end Go.Proofs.YtjpbjghdplbdcaaGreatDoor
end
section
namespace Go.Proofs.YtjpbjghdplbdcaaGreatDoor
open Go.RowKit Go.Shelf
theorem tx_at {l : List UInt8} {k : Nat} (h : k < (tx l).size) : (tx l)[k] = l.getD k 0 := by
  have h' : k < l.length := by rwa [tx_size] at h
  show (l.toArray)[k]'(by simpa using h') = _
  simp [List.getD, h']
theorem isKc_lo {c : UInt8} (h1 : 97 ≤ c.toNat) (h2 : c.toNat ≤ 122) : isKc c = true := decide_eq_true (.inl ⟨h1, h2⟩)
theorem isKc_hi {c : UInt8} (h1 : 48 ≤ c.toNat) (h2 : c.toNat ≤ 57) : isKc c = true := decide_eq_true (.inr ⟨h1, h2⟩)
theorem keyOk_no {l : List UInt8} {k : Nat} (hk : k < l.length) (h : isKc (l.getD k 0) = false) : keyOk l = false := by
  unfold keyOk kcTo
  rw [okTo_bad (p := fun i => isKc (l.getD i 0)) (k := k) h _ hk, Bool.and_false]
theorem keyOk_size {l : List UInt8} (h : ¬ (1 ≤ l.length ∧ l.length ≤ 16)) : keyOk l = false := by unfold keyOk; rw [decide_eq_false h, Bool.false_and]
theorem keyOk_yes {l : List UInt8} (h : 1 ≤ l.length ∧ l.length ≤ 16) (hk : kcTo l l.length = true) : keyOk l = true := by unfold keyOk; rw [decide_eq_true h, hk]; rfl
set_option maxRecDepth 20000 in
set_option maxHeartbeats 1600000 in
theorem skey_any {l : List UInt8} (hl : l.length ≤ 140737488351232) (w : World) :
    Calls Tryz.prog 232 #[.string (tx l)] w fun e w' => e = .returned (.bool (keyOk l)) ∧ w = w' := by
  have hs := tx_size l
  have HG := hide (fun k (h : k < (tx l).size) => tx_at (l := l) h)
  by_cases h0 : l = []
  · have hr := hide (keyOk_size (l := l) (by rw [h0]; simp))
    have e0 : (tx l).toList.isEmpty = true := by rw [h0]; exact empty_yes
    clear h0
    generalize tx l = S at hs e0 ⊢
    go_enter Tryz.func232, Tryz.ntmps232
    go_wp2_with fail
    rw [hr.out]
    go_ret
    exact ⟨rfl, rfl⟩
  · have e0 := empty_no h0
    have p0 := List.length_pos_iff.2 h0
    clear h0
    obtain ⟨S, hS⟩ : ∃ S, tx l = S := ⟨_, rfl⟩
    rw [hS] at hs HG e0 ⊢
    clear hS
    by_cases h16 : l.length ≤ 16
    · go_enter Tryz.func232, Tryz.ntmps232
      go_wp2_with fail
      go_loop [14] (fun i => ∃ k : Nat, k ≤ l.length ∧ i = .int .i64 k ∧ kcTo l k = true) (fun i => l.length - (intOf i).toNat)
      case atStart => exact ⟨0, by omega, rfl, rfl⟩
      case round =>
        obtain ⟨k, hk, rfl, hx⟩ := hrel
        have HX := hide hx
        clear hx
        by_cases hlt : k < l.length
        · obtain ⟨c, hc⟩ : ∃ c, l.getD k 0 = c := ⟨_, rfl⟩
          have hb : ∀ h : k < S.size, S[k]'h = c := fun h => by rw [HG.out k h, hc]
          have HC := hide hc
          have c8 := c.toNat_lt
          clear hc
          by_cases a1 : 97 ≤ c.toNat
          · by_cases a2 : c.toNat ≤ 122
            · have d97 : decide ((97 : Int) ≤ (c.toNat : Int)) = true := decide_eq_true (by omega)
              have d122 : decide ((c.toNat : Int) ≤ 122) = true := decide_eq_true (by omega)
              go_wp2_with fail
              exact ⟨⟨k + 1, by omega, by go_num, okTo_next HX.out (by show isKc (l.getD k 0) = true; rw [HC.out]; exact isKc_lo a1 a2)⟩, by simp [intOf]; omega⟩
            · have d97 : decide ((97 : Int) ≤ (c.toNat : Int)) = true := decide_eq_true (by omega)
              have d122 : decide ((c.toNat : Int) ≤ 122) = false := decide_eq_false (by omega)
              have d57 : decide ((c.toNat : Int) ≤ 57) = false := decide_eq_false (by omega)
              go_wp2_with fail
              rw [keyOk_no hlt (by rw [HC.out]; exact decide_eq_false (by omega))]
              go_ret
              exact ⟨rfl, rfl⟩
          · by_cases b1 : 48 ≤ c.toNat
            · by_cases b2 : c.toNat ≤ 57
              · have d97 : decide ((97 : Int) ≤ (c.toNat : Int)) = false := decide_eq_false (by omega)
                have d48 : decide ((48 : Int) ≤ (c.toNat : Int)) = true := decide_eq_true (by omega)
                have d57 : decide ((c.toNat : Int) ≤ 57) = true := decide_eq_true (by omega)
                go_wp2_with fail
                exact ⟨⟨k + 1, by omega, by go_num, okTo_next HX.out (by show isKc (l.getD k 0) = true; rw [HC.out]; exact isKc_hi b1 b2)⟩, by simp [intOf]; omega⟩
              · have d97 : decide ((97 : Int) ≤ (c.toNat : Int)) = false := decide_eq_false (by omega)
                have d48 : decide ((48 : Int) ≤ (c.toNat : Int)) = true := decide_eq_true (by omega)
                have d57 : decide ((c.toNat : Int) ≤ 57) = false := decide_eq_false (by omega)
                go_wp2_with fail
                rw [keyOk_no hlt (by rw [HC.out]; exact decide_eq_false (by omega))]
                go_ret
                exact ⟨rfl, rfl⟩
            · have d97 : decide ((97 : Int) ≤ (c.toNat : Int)) = false := decide_eq_false (by omega)
              have d48 : decide ((48 : Int) ≤ (c.toNat : Int)) = false := decide_eq_false (by omega)
              go_wp2_with fail
              rw [keyOk_no hlt (by rw [HC.out]; exact decide_eq_false (by omega))]
              go_ret
              exact ⟨rfl, rfl⟩
        · obtain rfl : k = l.length := by omega
          go_wp2_with fail
          rw [keyOk_yes ⟨p0, h16⟩ HX.out]
          go_ret
          exact ⟨rfl, rfl⟩
    · have hr := hide (keyOk_size (l := l) (by omega))
      go_enter Tryz.func232, Tryz.ntmps232
      go_wp2_with fail
      rw [hr.out]
      go_ret
      exact ⟨rfl, rfl⟩

theorem valOk_no {l : List UInt8} {k : Nat} (hk : k < l.length) (h : isVc (l.getD k 0) = false) : valOk l = false := by
  unfold valOk vcTo
  rw [okTo_bad (p := fun i => isVc (l.getD i 0)) (k := k) h _ hk, Bool.and_false]
theorem val_end {l : List UInt8} (hk : vcTo l l.length = true) : (!(tx l).toList.isEmpty) = valOk l := by
  unfold valOk
  rw [hk, Bool.and_true, ByteArray.toList_eq]
  cases l <;> simp [tx]
set_option maxRecDepth 20000 in
set_option maxHeartbeats 1600000 in
theorem sval_any {l : List UInt8} (hl : l.length ≤ 140737488351232) (w : World) :
    Calls Tryz.prog 233 #[.string (tx l)] w fun e w' => e = .returned (.bool (valOk l)) ∧ w = w' := by
  have hs := tx_size l
  have HG := hide (fun k (h : k < (tx l).size) => tx_at (l := l) h)
  have HE := hide (val_end (l := l))
  obtain ⟨S, hS⟩ : ∃ S, tx l = S := ⟨_, rfl⟩
  rw [hS] at hs HG HE ⊢
  clear hS
  go_enter Tryz.func233, Tryz.ntmps233
  go_wp2_with fail
  go_loop [7] (fun i => ∃ k : Nat, k ≤ l.length ∧ i = .int .i64 k ∧ vcTo l k = true) (fun i => l.length - (intOf i).toNat)
  case atStart => exact ⟨0, by omega, rfl, rfl⟩
  case round =>
    obtain ⟨k, hk, rfl, hx⟩ := hrel
    have HX := hide hx
    clear hx
    by_cases hlt : k < l.length
    · obtain ⟨c, hc⟩ : ∃ c, l.getD k 0 = c := ⟨_, rfl⟩
      have hb : ∀ h : k < S.size, S[k]'h = c := fun h => by rw [HG.out k h, hc]
      have HC := hide hc
      have c8 := c.toNat_lt
      clear hc
      by_cases hv : isVc c = true
      · have hv' := of_decide_eq_true hv
        have t1 : ((c.toNat : Int) == 44) = false := by simp; omega
        have t2 : ((c.toNat : Int) == 61) = false := by simp; omega
        have t3 : ((c.toNat : Int) == 59) = false := by simp; omega
        obtain ⟨v1, v2, -⟩ := hv'
        have HV := hide hv
        clear hv
        go_wp2_with fail
        exact ⟨⟨k + 1, by omega, by go_num, okTo_next HX.out (by show isVc (l.getD k 0) = true; rw [HC.out]; exact HV.out)⟩, by simp [intOf]; omega⟩
      · have HR := hide (valOk_no hlt (by rw [HC.out]; simpa using hv))
        have hv' : c.toNat < 33 ∨ 126 < c.toNat ∨ c.toNat = 44 ∨ c.toNat = 61 ∨ c.toNat = 59 := by
          have : ¬ (33 ≤ c.toNat ∧ c.toNat ≤ 126 ∧ c.toNat ≠ 44 ∧ c.toNat ≠ 61 ∧ c.toNat ≠ 59) := fun h => hv (decide_eq_true h)
          omega
        clear hv HC
        rcases hv' with h | h | h | h | h
        · go_wp2_with fail
          rw [HR.out]
          go_ret
          exact ⟨rfl, rfl⟩
        · go_wp2_with fail
          rw [HR.out]
          go_ret
          exact ⟨rfl, rfl⟩
        all_goals
          go_wp2_with fail
          rw [HR.out]
          go_ret
          exact ⟨rfl, rfl⟩
    · obtain rfl : k = l.length := by omega
      go_wp2_with fail
      rw [← HE.out HX.out]
      go_ret
      exact ⟨rfl, rfl⟩
end Go.Proofs.YtjpbjghdplbdcaaGreatDoor
end
section
namespace Go.Proofs.YtjpbjghdplbdcaaGreatDoor
open Go.RowKit Go.Shelf
def RowOf (w : World) (g : Nat) (l : List UInt8) : Prop := ∀ k, k < l.length → w.cell? ⟨g, k, none⟩ = some (.int .u8 ((l.getD k 0).toNat : Int))
theorem RowOf.below {w w' : World} {g B : Nat} {l : List UInt8} (h : RowOf w g l) (hb : Below B w w') (hg : g < B) : RowOf w' g l := fun k hk => by rw [hb.cell (p := ⟨g, k, none⟩) hg]; exact h k hk

end Go.Proofs.YtjpbjghdplbdcaaGreatDoor
end
section
namespace Go.Proofs.YtjpbjghdplbdcaaGreatDoor
open Go.RowKit Go.Maps
theorem plainElem_bool_inv {H : Type} {P : Program} {e : TypeId} (he : P.underlying e = some .bool) {v : Value} {z : DataW H × List MemPlace} (h : plainElem P e v = some z) : ∃ b, v = .bool b ∧ z = (.lit (.bool b), []) := by
  unfold plainElem at h
  rw [he] at h
  cases v <;> simp at h
  subst h
  exact ⟨_, rfl, rfl⟩
theorem lookup_bool {H : Type} {P : Program} {k t e : TypeId} {w : World} {b n : Nat} {D : DataW H} (h : w.ownsMap P k (plainElem P e) b n D) (K : Keyed P k) (ht : P.underlying t = some (.map k e)) (he : P.underlying e = some .bool) (hz : (zeroValue e).run P w = .ok (.bool false) w)
    {key : Value} {kl : Lit} (hkey : keyOf P k key = some kl) : ∃ c, (Instr.lookup t (.map (some b)) key false).run P w = .ok (.bool c) w ∧ D.atKey kl (.lit (.bool false)) = .lit (.bool c) := by
  obtain ⟨v, ps, hrun, hv⟩ := h.lookup K ht hz (plainElem_bool he false) hkey
  obtain ⟨c, rfl, hc⟩ := plainElem_bool_inv he hv
  simp only [Prod.mk.injEq] at hc
  exact ⟨c, hrun, hc.1⟩
def Seen (P : Program) (k e : TypeId) (w : World) (b n : Nat) (p : Lit → Bool) : Prop := ∃ D : DataW Unit, w.ownsMap P k (plainElem P e) b n D ∧ IsMap D ∧ ∀ kl, WideAt.IsKeyLit kl → D.atKey kl (.lit (.bool false)) = .lit (.bool (p kl))
section
variable {P : Program} {k e t : TypeId} {w w' : World} {b n : Nat} {p : Lit → Bool}
theorem Seen.made (w : World) (P : Program) (k e : TypeId) : Seen P k e (w.alloc (.map #[] 0)) w.heap.size 0 (fun _ => false) :=
  ⟨.map [], World.ownsMap_made w P k _, ⟨[], rfl⟩, fun _ _ => rfl⟩
theorem Seen.lt (h : Seen P k e w b n p) : b < w.heap.size := by
  obtain ⟨D, hD, _⟩ := h
  exact hD.lt
theorem Seen.below {B : Nat} (h : Seen P k e w b n p) (hb : Below B w w') (hB : b < B) : Seen P k e w' b n p := by
  obtain ⟨D, ⟨es, clock, h1, h2, h3, h4⟩, hm, hp⟩ := h
  exact ⟨D, ⟨es, clock, by rw [hb.block b hB]; exact h1, h2, h3, h4⟩, hm, hp⟩
theorem Seen.drew (h : Seen P k e w b n p) : Seen P k e w.drew b n p := h
theorem Seen.drewN (h : Seen P k e w b n p) (q : Nat) : Seen P k e (w.drewN q) b n p := h
theorem Seen.alloc (h : Seen P k e w b n p) (o : Obj) : Seen P k e (w.alloc o) b n p := by
  obtain ⟨D, hD, r⟩ := h
  exact ⟨D, hD.alloc o, r⟩
theorem Seen.mono (h : Seen P k e w b n p) {m : Nat} (hn : n ≤ m) : Seen P k e w b m p := by
  obtain ⟨D, hD, r⟩ := h
  exact ⟨D, hD.mono hn, r⟩
theorem Seen.look (h : Seen P k e w b n p) (K : Keyed P k) (ht : P.underlying t = some (.map k e)) (he : P.underlying e = some .bool) (hz : (zeroValue e).run P w = .ok (.bool false) w) {key : Value} {kl : Lit} (hkey : keyOf P k key = some kl) (hkl : WideAt.IsKeyLit kl) :
    (Instr.lookup t (.map (some b)) key false).run P w = .ok (.bool (p kl)) w := by
  obtain ⟨D, hD, hm, hp⟩ := h
  obtain ⟨c, hrun, hc⟩ := lookup_bool hD K ht he hz hkey
  rw [hp kl hkl] at hc
  injection hc with hc
  injection hc with hc
  rw [hc]; exact hrun
theorem Seen.put {D : DataW Unit} {x : Lit} (hm : IsMap D) (hp : ∀ kl, WideAt.IsKeyLit kl → D.atKey kl (.lit (.bool false)) = .lit (.bool (p kl))) (hx : WideAt.IsKeyLit x) (c : Bool) :
    IsMap (D.put x (.lit (.bool c))) ∧ ∀ kl, WideAt.IsKeyLit kl → (D.put x (.lit (.bool c))).atKey kl (.lit (.bool false)) = .lit (.bool (bif kl.sameKey x then c else p kl)) := by
  refine ⟨?_, fun kl hkl => ?_⟩
  · obtain ⟨es, rfl⟩ := hm
    exact ⟨_, rfl⟩
  · by_cases e : kl = x
    · subst e
      rw [WideAt.sameKey_self hkl, atKey_put_same hm hkl]; rfl
    · rw [sameKey_ne e, atKey_put_other e, hp kl hkl]; rfl
theorem wpList_seen_put {ops : Array Oper} {rest : List Oper} {o : Oper} {a : Act} {Q : Exit → Act → World → Prop} (hg : o.guard = none) (m x v : Operand) (hop : o.op = Op.mapUpdate t m x v)
    (h : Seen P k e w b n p) (K : Keyed P k) (ht : P.underlying t = some (.map k e)) (he : P.underlying e = some .bool) (hn : n < maxLen) (hm : a.eval m = .map (some b)) (key : Value) (kl : Lit) (c : Bool) (hx : a.eval x = key) (hv : a.eval v = .bool c) (hkey : keyOf P k key = some kl) (hkl : WideAt.IsKeyLit kl)
    (hK : ∀ w', Seen P k e w' b (n + 1) (fun y => bif y.sameKey kl then c else p y) → w.grownBy w' (some b) → wpList P ops Q rest (a.put o.dst undef) w') : wpList P ops Q (o :: rest) a w := by
  obtain ⟨D, hD, hmp, hp⟩ := h
  exact wpList_mapUpdate_own w hg m x v t hop k e K ht (plainElem P e) b n D hm hD hn key (.bool c) kl hx hv hkey (.lit (.bool c)) [] (plainElem_bool he c)
    (fun w' h1 h2 => hK w' ⟨_, h1, (Seen.put hmp hp hkl c).1, (Seen.put hmp hp hkl c).2⟩ h2)
theorem wpList_seen_look {ops : Array Oper} {rest : List Oper} {o : Oper} {a : Act} {Q : Exit → Act → World → Prop} (hg : o.guard = none) (m x : Operand) (hop : o.op = Op.lookup t m x false)
    (h : Seen P k e w b n p) (K : Keyed P k) (ht : P.underlying t = some (.map k e)) (he : P.underlying e = some .bool) (hz : (zeroValue e).run P w = .ok (.bool false) w) (hm : a.eval m = .map (some b)) (key : Value) (kl : Lit) (hx : a.eval x = key) (hkey : keyOf P k key = some kl) (hkl : WideAt.IsKeyLit kl)
    (hK : wpList P ops Q rest (a.put o.dst (.bool (p kl))) w) : wpList P ops Q (o :: rest) a w := by
  refine wpList_plain hg fun K' hK' => ?_
  have hrun := h.look (t := t) K ht he hz hkey hkl
  unfold Oper.wp
  simp [execOp, hop, hm, hx, hrun, Result.andThen]
  exact hK' _ _ hK
end
end Go.Proofs.YtjpbjghdplbdcaaGreatDoor
end
section
namespace Go.Proofs.YtjpbjghdplbdcaaGreatDoor
open Go.RowKit Go.Shelf Go.Maps
theorem prErr_large {n : Nat} {ps : List Pr} (h : 40 < n) : prErr n ps = 2 := if_pos h
theorem prErr_at {n k : Nat} {ps : List Pr} {c : Int} (h : ¬ 40 < n) (hk : k < n) (h0 : faultTo (prStep ps) k = 0) (hc : prStep ps k = c) (hne : c ≠ 0) : prErr n ps = c := by
  unfold prErr
  rw [if_neg h]
  exact faultTo_bad h0 hc hne n hk
theorem prErr_none {n : Nat} {ps : List Pr} (h : ¬ 40 < n) (h0 : faultTo (prStep ps) n = 0) : prErr n ps = 0 := by unfold prErr; rw [if_neg h]; exact h0
def Fit (ps : List Pr) : Prop := ∀ p ∈ ps, p.1.size ≤ 140737488351232 ∧ p.2.size ≤ 140737488351232
def keysTo (ps : List Pr) (k : Nat) (y : Lit) : Bool := (ps.take k).any fun q => y.sameKey (.string (bl q.1))
theorem keysTo_next {ps : List Pr} {k : Nat} {p : Pr} (h : ps[k]? = some p) : (fun y : Lit => bif y.sameKey (.string (bl p.1)) then true else keysTo ps k y) = keysTo ps (k + 1) := by
  funext y
  unfold keysTo
  rw [List.take_add_one, h]
  simp only [Option.toList_some, List.any_append, List.any_cons, List.any_nil, Bool.or_false]
  cases y.sameKey (.string (bl p.1)) <;> simp
theorem keysTo_dup {ps : List Pr} {k : Nat} {p : Pr} (h : ps[k]? = some p) : keysTo ps k (.string (bl p.1)) = dupAt ps k := by
  unfold keysTo dupAt
  rw [getD_of h]
  congr 1
  funext q
  by_cases e : q.1 = p.1
  · rw [e, WideAt.sameKey_self (by trivial)]
    simp
  · rw [sameKey_ne (fun h => e (by injection h with h; exact ByteArray.ext (Array.toList_inj.1 h.symm)))]
    simp [e]

section
variable {A : Option Addr} {n c : Nat} {ps : List Pr} {w : World}
theorem Kst : Keyed Tryz.prog 9 := string_keyed Tryz.underlying9
set_option maxRecDepth 20000 in
set_option maxHeartbeats 3200000 in
theorem scheck_any (h : Sp2 w A n c ps) (hf : Fit ps) :
    Calls Tryz.prog 174 #[.slice A n c] w fun e w' => e = .returned (.int .i64 (prErr n ps)) ∧ Below w.heap.size w w' := by
  have hm := h.len_max
  have HL := hide h.slen
  have HF := hide hf
  clear hf
  by_cases g1 : 40 < n
  · rw [prErr_large g1]
    go_enter Tryz.func174, Tryz.ntmps174
    go_wp2_with fail
    go_ret
    exact ⟨rfl, Below.refl _ _⟩
  · have hmm := @run_makeMap Tryz.prog
    go_enter Tryz.func174, Tryz.ntmps174
    go_wp2_with fail
    clear hmm
    have hs0 : Seen Tryz.prog 9 4 (w.alloc (.map #[] 0)) w.heap.size 0 (keysTo ps 0) := Seen.made w _ _ _
    have hb0 : Below w.heap.size w (w.alloc (.map #[] 0)) := by repeat' (first | assumption | with_reducible exact Below.refl _ _ | with_reducible apply Below.drew | with_reducible apply below_drewN | with_reducible apply below_alloc | with_reducible refine below_set ?_ ?_ _ | (simp only [World.size_alloc, World.heap_drewN]; omega) | (simp; omega))
    have hl0 : w.heap.size < (w.alloc (.map #[] 0)).heap.size := by simp
    generalize w.alloc (.map #[] 0) = w1 at hs0 hb0 hl0 ⊢
    go_loopw [12] (fun i wr => ∃ k : Nat, k ≤ n ∧ i = .int .i64 k ∧ faultTo (prStep ps) k = 0 ∧ Below w.heap.size w wr ∧ Seen Tryz.prog 9 4 wr w.heap.size k (keysTo ps k)) (fun i _ => n - (intOf i).toNat)
    case atStart => exact ⟨0, by omega, rfl, rfl, hb0, hs0⟩
    case round =>
      obtain ⟨k, hk, rfl, hx, hbr, hsr⟩ := hrel
      have HX := hide hx
      clear hx
      by_cases hlt : k < n
      · obtain ⟨ad, p, rfl, hbk, hp, hc0, hc1⟩ := (h.below hbr).scell hlt
        have hpm := HF.out p (List.mem_of_getElem? hp)
        have HP := hide hp
        have HK := hide (show ∀ w, Calls Tryz.prog 232 #[.string p.1] w fun e w' => e = .returned (.bool (keyOk (bl p.1))) ∧ w = w' from fun w => skey_any (l := bl p.1) (by simpa [bl] using hpm.1) w)
        have HV := hide (show ∀ w, Calls Tryz.prog 233 #[.string p.2] w fun e w' => e = .returned (.bool (valOk (bl p.2))) ∧ w = w' from fun w => sval_any (l := bl p.2) (by simpa [bl] using hpm.2) w)
        have hkey : keyOf Tryz.prog 9 (.string p.1) = some (.string p.1.data.toList) := Go.WideMaps.keyOf_string_mk Tryz.underlying9 (by simp only [maxLen]; omega)
        have hs2 := hsr.alloc (Obj.cells #[.string p.1, .string p.2] 171)
        have hb2 : Below w.heap.size w (wr.alloc (Obj.cells #[.string p.1, .string p.2] 171)) := by repeat' (first | assumption | with_reducible exact Below.refl _ _ | with_reducible apply Below.drew | with_reducible apply below_drewN | with_reducible apply below_alloc | with_reducible refine below_set ?_ ?_ _ | (simp only [World.size_alloc, World.heap_drewN]; omega) | (simp; omega))
        have hsz2 : w.heap.size ≤ (wr.alloc (Obj.cells #[.string p.1, .string p.2] 171)).heap.size := hb2.size
        clear hp
        cases hkk : keyOk (bl p.1)
        · have HE := hide (show prErr n ps = 3 from prErr_at g1 hlt HX.out (prStep_form HP.out (by rw [hkk]; simp)) (by decide))
          rw [hkk] at HK
          clear hkk
          go_wp2_with fail
          refine (HK.out _).mono ?_
          rintro e w' ⟨rfl, rfl⟩
          go_wp2_with fail
          rw [HE.out]
          go_ret
          exact ⟨rfl, hb2⟩
        · cases hvv : valOk (bl p.2)
          · have HE := hide (show prErr n ps = 3 from prErr_at g1 hlt HX.out (prStep_form HP.out (by rw [hvv]; simp)) (by decide))
            rw [hkk] at HK
            rw [hvv] at HV
            clear hkk hvv
            go_wp2_with fail
            refine (HK.out _).mono ?_
            rintro e w' ⟨rfl, rfl⟩
            go_wp2_with fail
            refine (HV.out _).mono ?_
            rintro e w' ⟨rfl, rfl⟩
            go_wp2_with fail
            rw [HE.out]
            go_ret
            exact ⟨rfl, hb2⟩
          · cases hdd : dupAt ps k
            · have HN := hide (faultTo_next HX.out (prStep_ok HP.out hkk hvv hdd))
              have hkd : keysTo ps k (.string p.1.data.toList) = false := by rw [← hdd]; exact keysTo_dup HP.out
              rw [hkk] at HK
              rw [hvv] at HV
              clear hkk hvv hdd
              go_wp2_with fail
              refine (HK.out _).mono ?_
              rintro e w' ⟨rfl, rfl⟩
              go_wp2_with fail
              refine (HV.out _).mono ?_
              rintro e w' ⟨rfl, rfl⟩
              go_wp2_with (first | (at_lookup; refine wpList_seen_look rfl _ _ rfl hs2 Kst Tryz.underlying247 Tryz.underlying4 (Tryz.zeroValue4 _) rfl _ _ rfl hkey trivial ?_; rw [hkd]) | (at_mapUpdate; refine wpList_seen_put rfl _ _ _ rfl hs2 Kst Tryz.underlying247 Tryz.underlying4 (by simp only [maxLen]; omega) rfl _ _ _ rfl rfl hkey trivial ?_; intro w2 hs3 hgrow))
              refine ⟨⟨k + 1, by omega, by go_num, HN.out, hb2.grown hgrow hsz2 (fun j hj => by injection hj with hj; omega), by rw [← keysTo_next HP.out]; exact hs3⟩, by simp [intOf]; omega⟩
            · have HE := hide (show prErr n ps = 5 from prErr_at g1 hlt HX.out (prStep_there HP.out hkk hvv hdd) (by decide))
              have hkd : keysTo ps k (.string p.1.data.toList) = true := by rw [← hdd]; exact keysTo_dup HP.out
              rw [hkk] at HK
              rw [hvv] at HV
              clear hkk hvv hdd
              go_wp2_with fail
              refine (HK.out _).mono ?_
              rintro e w' ⟨rfl, rfl⟩
              go_wp2_with fail
              refine (HV.out _).mono ?_
              rintro e w' ⟨rfl, rfl⟩
              go_wp2_with (first | (at_lookup; refine wpList_seen_look rfl _ _ rfl hs2 Kst Tryz.underlying247 Tryz.underlying4 (Tryz.zeroValue4 _) rfl _ _ rfl hkey trivial ?_; rw [hkd]))
              rw [HE.out]
              go_ret
              exact ⟨rfl, hb2⟩
      · obtain rfl : k = n := by omega
        go_wp2_with fail
        rw [prErr_none g1 HX.out]
        go_ret
        exact ⟨rfl, hbr⟩
end
end Go.Proofs.YtjpbjghdplbdcaaGreatDoor
end
