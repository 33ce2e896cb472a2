/- Proves the parts of the claim that its last text joins: MulT, Bot2, BoardP. Conditions: those that each theorem names. -/
import Derived.Test.YtjpbjghdplbdcaaGreatDoorM08
import Derived.Test.YtjpbjghdplbdcaaGreatDoorM01
import Derived.Test.YtjpbjghdplbdcaaGreatDoorM07
import Derived.Deep.QuietTactic
import Derived.BigQuiet
import Derived.Test.YtjpbjghdplbdcaaGreatDoorM05
import Derived.Lib.Bytealg
section
namespace Go.Proofs.YtjpbjghdplbdcaaGreatDoor
open Go.RowKit Go.Shelf
def laysMul64_ren : Go.Shelf.Ren := ⟨fun | 264 => 172 | n => n, fun | 53 => 72 | 46 => 166 | n => n, fun | n => n⟩
theorem laysMul64 : Go.Proofs.Lays.n264 Tryz.prog laysMul64_ren := {
  mixed := by kernel_rfl
  f264 := Tryz.func172.trans (congrArg some (by kernel_rfl))
  t46 := Tryz.underlying166
  a46 := Tryz.isAgg166
  z46 := Tryz.sizeOf166
  v46 := Tryz.zeroValue166
  t53 := Tryz.underlying72
  a53 := Tryz.isAgg72
  z53 := Tryz.sizeOf72
  v53 := Tryz.zeroValue72 }
theorem mul64 {x y N : Nat} (hN : x * y = N) (hx : x < 18446744073709551616) (hy : y < 18446744073709551616) (w : World) : Calls Tryz.prog 172 #[.int .u64 x, .int .u64 y] w fun e w' => e = .returned (.tuple #[.int .u64 (N / 18446744073709551616 : Nat), .int .u64 (N % 18446744073709551616 : Nat)]) ∧ w = w' := by
  refine (Any.bits_Mul64 laysMul64 x y hx hy w).mono ?_
  rintro e w' ⟨rfl, rfl⟩
  rw [hN]
  exact ⟨rfl, rfl⟩
theorem div64 {hi lo y N : Nat} (hN : hi * 18446744073709551616 + lo = N) (h1 : hi < y) (h2 : y < 18446744073709551616) (h3 : lo < 18446744073709551616) (w : World) {A B : Nat} (hA : N / y = A) (hB : N % y = B) :
    Calls Tryz.prog 173 #[.int .u64 hi, .int .u64 lo, .int .u64 y] w fun e w' => e = .returned (.tuple #[.int .u64 A, .int .u64 B]) ∧ ∃ q, w' = w.drewN q := by
  subst hN
  subst hA
  subst hB
  rcases Nat.eq_zero_or_pos hi with h0 | h0
  · subst h0
    rw [Nat.zero_mul, Nat.zero_add]
    exact div64_low (by omega) h2 h3 w
  · have hl := Any.bitLen_le64 (y : Int) (by omega) (by omega)
    rw [Int.toNat_natCast] at hl
    refine (div64_high (s := 64 - Lib.bitLen y) h0 h1 h2 h3 (by omega) w).mono ?_
    rintro e w' ⟨rfl, rfl⟩
    exact ⟨rfl, 0, rfl⟩
end Go.Proofs.YtjpbjghdplbdcaaGreatDoor
end
section
namespace Go.Proofs.YtjpbjghdplbdcaaGreatDoor
open Go.RowKit
def guV (K : Int) (n : Nat) (xs : List Int) : Int := if (n : Int) < K then n else if xs.getD (n - 1) 0 = 0 then 0 else (72057594037927936 * (n - 1) / (xs.getD (n - 1) 0).toNat : Nat)
def guE (K : Int) (n : Nat) (xs : List Int) : Int := if (n : Int) < K then 0 else if xs.getD (n - 1) 0 = 0 then 6 else 0
section
variable {A : Option Addr} {n c : Nat} {xs : List Int} {w : World} {K : Int}
theorem botcheck_is (h : Si w A n c xs) {E : Int} (he : botErr K n xs = E) :
    Calls Tryz.prog 239 #[.agg #[.int .i64 K, .slice A n c]] w fun e w' => e = .returned (.int .i64 E) ∧ Below w.heap.size w w' := by
  have k := botcheck_any (K := K) h; rw [he] at k; exact k
set_option maxRecDepth 20000 in
set_option maxHeartbeats 3200000 in
theorem many_ok (h : Si w A n c xs) (he : botErr K n xs = 0) {V F : Int} (hV : guV K n xs = V) (hF : guE K n xs = F) :
    Calls Tryz.prog 191 #[.agg #[.int .i64 K, .slice A n c]] w fun e w' => e = .returned (.tuple #[.int .i64 V, .int .i64 F]) ∧ Below w.heap.size w w' := by
  have hl := h.ilen
  obtain ⟨k1, k40, hnK, hup, hdr⟩ := botErr_ok hl he
  have b0 := Blk.new w 47 #[.int .i64 K, .slice A n c]
  have hb0 : Below w.heap.size w (w.alloc (.cells #[.int .i64 K, .slice A n c] 47)) := by repeat' (first | assumption | with_reducible exact Below.refl _ _ | with_reducible apply Below.drew | with_reducible apply below_drewN | with_reducible apply below_alloc | with_reducible refine below_set ?_ ?_ _ | (simp only [World.size_alloc, World.heap_drewN]; omega) | (simp; omega))
  have HC := hide (botcheck_is (h.on hb0) he)
  clear he
  by_cases hn : (n : Int) < K
  · have e1 : V = (n : Int) := by rw [← hV]; exact if_pos hn
    have e2 : F = 0 := by rw [← hF]; exact if_pos hn
    rw [e1, e2]
    clear hV hF e1 e2 hup hdr hl
    go_enter Tryz.func191, Tryz.ntmps191
    go_wp2_with fail
    refine HC.out.mono ?_
    rintro e w1 ⟨rfl, bel⟩
    have b1 := b0.below bel b0.lt
    have c0 := b1.at_ (i := 0) (u := .int .i64 K) rfl
    have c1 := b1.at_ (i := 1) (u := .slice A n c) rfl
    go_wp2_with fail
    go_ret2
    exact ⟨rfl, below_on hb0 bel⟩
  · obtain ⟨m, hm⟩ : ∃ m : Nat, n = m + 1 := ⟨n - 1, by omega⟩
    have hm1 : (n : Int) - 1 = (m : Int) := by omega
    have hK : K = (n : Int) := by omega
    subst hK
    have hcell := (h.on hb0).icell (show m < n by omega)
    obtain ⟨ad, x, rfl, hbk, hx, hc⟩ := hcell
    have hx0 := hdr x (List.mem_of_getElem? hx)
    have hg : xs.getD (n - 1) 0 = x := by rw [show n - 1 = m by omega, getD_of hx]
    unfold guV at hV
    unfold guE at hF
    rw [if_neg (by omega), hg] at hV hF
    clear hup hdr hl hx hg hnK
    have HM := hide hm
    clear hm
    by_cases hz : x = 0
    · subst hz
      rw [if_pos rfl] at hV hF
      subst hV
      subst hF
      go_enter Tryz.func191, Tryz.ntmps191
      go_wp2_with fail
      refine HC.out.mono ?_
      rintro e w1 ⟨rfl, bel⟩
      have b1 := b0.below bel b0.lt
      have c0 := b1.at_ (i := 0) (u := .int .i64 n) rfl
      have c1 := b1.at_ (i := 1) (u := .slice (some ad) n c) rfl
      have hc1 := (bel.cell (p := ad.add m) (by rw [add_block]; exact hbk)).trans hc
      go_wp2_with fail
      go_ret2
      exact ⟨rfl, below_on hb0 bel⟩
    · rw [if_neg hz] at hV hF
      subst hF
      obtain ⟨L, rfl⟩ : ∃ L : Nat, x = (L : Int) := ⟨x.toNat, by omega⟩
      have hL : 0 < L := by omega
      have tz : ((L : Int) == 0) = false := by simpa using hz
      obtain ⟨N, hN⟩ : ∃ N, 72057594037927936 * m = N := ⟨_, rfl⟩
      have hNb : N < 18446744073709551616 := by have := HM.out; omega
      have e1 : N / 18446744073709551616 = 0 := by omega
      have e2 : N % 18446744073709551616 = N := by omega
      obtain ⟨Q, hQ⟩ : ∃ Q, N / L = Q := ⟨_, rfl⟩
      have hQb : Q ≤ N := by rw [← hQ]; exact Nat.div_le_self _ _
      have hN9 : N ≤ 2882303761517117440 := by have := HM.out; omega
      have hVQ : V = (Q : Int) := by rw [← hV, show n - 1 = m by have := HM.out; omega, hN, Int.toNat_natCast, hQ]
      subst hVQ
      have CM := hide (fun w => mul64 (x := 72057594037927936) (y := m) hN (by decide) (by have := HM.out; omega) w)
      rw [e1, e2] at CM
      have CD := hide (fun w => div64 (hi := 0) (lo := N) (y := L) (N := N) (by omega) hL (by omega) hNb w hQ rfl)
      have mw : IntKind.u64.wrap (m : Int) = m := by rw [IntKind.wrap_u64]; have := HM.out; omega
      have lw : IntKind.u64.wrap (L : Int) = L := by rw [IntKind.wrap_u64]; omega
      have qw : IntKind.i64.wrap (Q : Int) = Q := IntWalk.i64_in _ (by omega)
      obtain ⟨R, hR⟩ : ∃ R, N % L = R := ⟨_, rfl⟩
      rw [hR] at CD
      clear hV hz hN e1 e2 hQ hR
      go_enter Tryz.func191, Tryz.ntmps191
      go_wp2_with fail
      refine HC.out.mono ?_
      rintro e w1 ⟨rfl, bel⟩
      have b1 := b0.below bel b0.lt
      have c0 := b1.at_ (i := 0) (u := .int .i64 n) rfl
      have c1 := b1.at_ (i := 1) (u := .slice (some ad) n c) rfl
      have hc1 := (bel.cell (p := ad.add m) (by rw [add_block]; exact hbk)).trans hc
      go_wp2_with fail
      refine (CM.out _).mono ?_
      rintro e w2 ⟨rfl, rfl⟩
      go_wp2_with fail
      refine (CD.out _).mono ?_
      rintro e w3 ⟨rfl, q, rfl⟩
      go_wp2_with fail
      go_ret2
      exact ⟨rfl, below_drewN (below_on hb0 bel) q⟩
end
end Go.Proofs.YtjpbjghdplbdcaaGreatDoor
end
section
namespace Go.Proofs.YtjpbjghdplbdcaaGreatDoor
open Go.Op (bytesLess)
abbrev by8 (s : ByteArray) : List UInt8 := s.data.toList
theorem by8_inj {a b : ByteArray} (h : by8 a = by8 b) : a = b := ByteArray.ext (Array.toList_inj.1 h)
theorem bl_cons (a b : UInt8) (x y : List UInt8) : bytesLess (a :: x) (b :: y) = (decide (a < b) || (a == b && bytesLess x y)) := rfl
theorem bl_irr : ∀ l : List UInt8, bytesLess l l = false
  | [] => rfl
  | a :: l => by rw [bl_cons, bl_irr l]; simp
theorem bl_nil_r (x : List UInt8) : bytesLess x [] = false := by cases x <;> rfl
theorem bl_trans : ∀ {x y z : List UInt8}, bytesLess x y = true → bytesLess y z = true → bytesLess x z = true
  | x, [], z, h, _ => by rw [bl_nil_r] at h; cases h
  | x, b :: y, [], _, h => by cases h
  | [], b :: y, c :: z, _, _ => rfl
  | a :: x, b :: y, c :: z, h1, h2 => by
    rw [bl_cons] at h1 h2 ⊢
    simp only [Bool.or_eq_true, Bool.and_eq_true, decide_eq_true_eq, beq_iff_eq] at h1 h2 ⊢
    rcases h1 with h1 | ⟨rfl, h1⟩
    · rcases h2 with h2 | ⟨rfl, _⟩
      · exact .inl (by rw [UInt8.lt_iff_toNat_lt] at *; omega)
      · exact .inl h1
    · rcases h2 with h2 | ⟨rfl, h2⟩
      · exact .inl h2
      · exact .inr ⟨rfl, bl_trans h1 h2⟩
theorem bl_total : ∀ {x y : List UInt8}, bytesLess x y = false → bytesLess y x = false → x = y
  | [], [], _, _ => rfl
  | [], b :: y, h, _ => by cases h
  | a :: x, [], _, h => by cases h
  | a :: x, b :: y, h1, h2 => by
    rw [bl_cons] at h1 h2
    simp only [Bool.or_eq_false_iff, Bool.and_eq_false_iff, decide_eq_false_iff_not, beq_eq_false_iff_ne] at h1 h2
    have e : a = b := by
      apply UInt8.toNat_inj.1
      have h3 := h1.1
      have h4 := h2.1
      rw [UInt8.lt_iff_toNat_lt] at h3 h4
      omega
    subst e
    have h3 : bytesLess x y = false := by rcases h1.2 with h | h; exact absurd rfl h; exact h
    have h4 : bytesLess y x = false := by rcases h2.2 with h | h; exact absurd rfl h; exact h
    rw [bl_total h3 h4]
theorem cmp_is : ∀ (x y : List UInt8), Lib.compareBytes x y = if bytesLess x y = true then -1 else if x = y then 0 else 1
  | [], [] => rfl
  | [], b :: y => rfl
  | a :: x, [] => rfl
  | a :: x, b :: y => by
    unfold Lib.compareBytes
    rw [bl_cons, cmp_is x y]
    by_cases h : a < b
    · rw [if_pos h, decide_eq_true h]; rfl
    · rw [if_neg h, decide_eq_false h]
      by_cases h2 : b < a
      · have : a ≠ b := by intro e; subst e; rw [UInt8.lt_iff_toNat_lt] at h2; omega
        rw [if_pos h2, show (a == b) = false by simpa using this, if_neg (by simp), if_neg (by simp [this])]
      · have e : a = b := by
          apply UInt8.toNat_inj.1
          rw [UInt8.lt_iff_toNat_lt] at h h2
          omega
        subst e
        rw [if_neg h2]
        simp
def ltB (a b : ByteArray) : Bool := bytesLess (by8 a) (by8 b)
theorem ltB_irr (a : ByteArray) : ltB a a = false := bl_irr _
theorem ltB_trans {a b c : ByteArray} (h : ltB a b = true) (h2 : ltB b c = true) : ltB a c = true := bl_trans h h2
theorem ltB_total {a b : ByteArray} (h : ltB a b = false) (h2 : ltB b a = false) : a = b := by8_inj (bl_total h h2)
theorem ltB_ne {a b : ByteArray} (h : ltB a b = true) : a ≠ b := by rintro rfl; rw [ltB_irr] at h; cases h

abbrev Rul := ByteArray × Int × Int
def badByte (b : UInt8) : Bool := decide (b.toNat < 33 ∨ 126 < b.toNat)
def preBad (s : ByteArray) : Bool := decide (16 < s.size) || (by8 s).any badByte
def argBad (r : Rul) : Prop := r.2.1 < 0 ∨ 20 < r.2.1 ∨ r.2.2 < 1 ∨ 1000000000000 < r.2.2
instance (r : Rul) : Decidable (argBad r) := by unfold argBad; infer_instance
def oneErr (r : Rul) : Int := if preBad r.1 = true then 3 else if argBad r then 1 else 0
def rAt (l : List Rul) (i : Nat) : Rul := l.getD i (ByteArray.empty, 0, 0)
theorem rAt_of {l : List Rul} {i : Nat} {r : Rul} (h : l[i]? = some r) : rAt l i = r := by simp [rAt, List.getD, h]
def rlStep (l : List Rul) (i : Nat) : Int := if oneErr (rAt l i) ≠ 0 then oneErr (rAt l i) else if 0 < i ∧ ltB (rAt l (i - 1)).1 (rAt l i).1 = false then 3 else 0
def rlErr (n : Nat) (l : List Rul) : Int := if 16 < n then 2 else faultTo (rlStep l) n
abbrev UpR (l : List Rul) : Prop := l.Pairwise fun a b => ltB a.1 b.1 = true
structure RlOk (l : List Rul) : Prop where
  len : l.length ≤ 16
  up : UpR l
  one : ∀ r ∈ l, oneErr r = 0
theorem rlErr_of {n : Nat} {l : List Rul} (hl : l.length = n) (h : RlOk l) : rlErr n l = 0 := by
  have hf : ∀ k, k ≤ n → faultTo (rlStep l) k = 0 := by
    intro k
    induction k with
    | zero => exact fun _ => rfl
    | succ k ih =>
      intro hk
      refine faultTo_next (ih (by omega)) ?_
      have hkl : k < l.length := by omega
      have e := rAt_of (List.getElem?_eq_getElem hkl)
      have h1 := h.one _ (List.getElem_mem hkl)
      unfold rlStep
      rw [e, if_neg (by rw [h1]; simp)]
      by_cases h0 : 0 < k
      · have h2 := (List.pairwise_iff_getElem.1 h.up) (k - 1) k (by omega) hkl (by omega)
        have e2 := rAt_of (List.getElem?_eq_getElem (l := l) (i := k - 1) (by omega))
        rw [if_neg (by rw [e2, h2]; simp)]
      · rw [if_neg (fun h => h0 h.1)]
  have := h.len
  unfold rlErr
  rw [if_neg (by omega)]
  exact hf n (Nat.le_refl _)
def newer (r s : Rul) : Bool := decide (s.2.2 < r.2.2 ∨ r.2.2 = s.2.2 ∧ s.2.1 < r.2.1)
def putR (r : Rul) : List Rul → List Rul
  | [] => [r]
  | s :: l => if ltB s.1 r.1 = true then s :: putR r l else if s.1 = r.1 then (if newer r s = true then r else s) :: l else r :: s :: l
def look (key : ByteArray) : List Rul → Option Rul
  | [] => none
  | s :: l => if s.1 = key then some s else look key l
theorem look_mem {key : ByteArray} : ∀ {l : List Rul} {s : Rul}, look key l = some s → s ∈ l ∧ s.1 = key
  | [], _, h => by cases h
  | t :: l, s, h => by
    unfold look at h
    split at h
    · injection h with h; subst h; exact ⟨List.mem_cons_self, by assumption⟩
    · obtain ⟨h1, h2⟩ := look_mem h; exact ⟨List.mem_cons_of_mem _ h1, h2⟩
theorem look_of {key : ByteArray} : ∀ {l : List Rul}, UpR l → ∀ {s : Rul}, s ∈ l → s.1 = key → look key l = some s
  | t :: l, hu, s, hs, hk => by
    rw [UpR, List.pairwise_cons] at hu
    unfold look
    rcases List.mem_cons.1 hs with rfl | hs
    · rw [if_pos hk]
    · rw [if_neg (fun e => by have := hu.1 s hs; rw [e, hk, ltB_irr] at this; cases this)]
      exact look_of hu.2 hs hk
theorem putR_keys (r : Rul) : ∀ (l : List Rul) (k : ByteArray), k ∈ (putR r l).map (·.1) ↔ k = r.1 ∨ k ∈ l.map (·.1)
  | [], k => by simp [putR]
  | s :: l, k => by
    unfold putR
    split
    · rw [List.map_cons, List.mem_cons, putR_keys r l k, List.map_cons, List.mem_cons]
      constructor
      · rintro (h | h | h) <;> simp [h]
      · rintro (h | h | h) <;> simp [h]
    · split
      · rename_i e
        split <;> simp [e]
      · simp
theorem putR_mem {r : Rul} : ∀ {l : List Rul} {s : Rul}, s ∈ putR r l → s = r ∨ s ∈ l
  | [], s, h => by simpa [putR] using h
  | t :: l, s, h => by
    unfold putR at h
    split at h
    · rcases List.mem_cons.1 h with rfl | h
      · exact .inr List.mem_cons_self
      · rcases putR_mem h with h | h
        · exact .inl h
        · exact .inr (List.mem_cons_of_mem _ h)
    · split at h
      · rcases List.mem_cons.1 h with h | h
        · split at h
          · exact .inl h
          · exact .inr (by rw [h]; exact List.mem_cons_self)
        · exact .inr (List.mem_cons_of_mem _ h)
      · rcases List.mem_cons.1 h with h | h
        · exact .inl h
        · exact .inr h
theorem putR_up {r : Rul} : ∀ {l : List Rul}, UpR l → UpR (putR r l)
  | [], _ => by simp [putR, UpR]
  | s :: l, h => by
    rw [UpR, List.pairwise_cons] at h
    unfold putR
    split
    · rename_i hs
      rw [UpR, List.pairwise_cons]
      refine ⟨fun z hz => ?_, putR_up h.2⟩
      have hz1 : z.1 ∈ (putR r l).map (·.1) := List.mem_map.2 ⟨z, hz, rfl⟩
      rcases (putR_keys r l z.1).1 hz1 with e | e
      · rw [e]; exact hs
      · obtain ⟨q, hq, e⟩ := List.mem_map.1 e
        rw [← e]; exact h.1 q hq
    · split
      · rename_i h1 h2
        rw [UpR, List.pairwise_cons]
        refine ⟨fun z hz => ?_, h.2⟩
        split
        · rw [← h2]; exact h.1 z hz
        · exact h.1 z hz
      · rename_i h1 h2
        have hrs : ltB r.1 s.1 = true := by
          cases hc : ltB r.1 s.1 with
          | true => rfl
          | false => exact absurd (ltB_total (Bool.eq_false_iff.2 h1) hc) h2
        rw [UpR, List.pairwise_cons, List.pairwise_cons]
        refine ⟨fun z hz => ?_, h⟩
        rcases List.mem_cons.1 hz with rfl | e
        · exact hrs
        · exact ltB_trans hrs (h.1 z e)
def posR (key : ByteArray) (l : List Rul) : Nat := (l.takeWhile fun s => ltB s.1 key).length
theorem posR_le (key : ByteArray) (l : List Rul) : posR key l ≤ l.length := (List.takeWhile_prefix _).length_le
theorem posR_less {key : ByteArray} : ∀ {l : List Rul}, UpR l → ∀ {h : Nat} {s : Rul}, l[h]? = some s → ltB s.1 key = decide (h < posR key l)
  | [], _, h, s, hs => by simp at hs
  | t :: l, hu, h, s, hs => by
    rw [UpR, List.pairwise_cons] at hu
    unfold posR
    rw [List.takeWhile_cons]
    cases ht : ltB t.1 key with
    | true =>
      cases h with
      | zero => simp at hs; subst hs; simp [ht]
      | succ h =>
        rw [List.getElem?_cons_succ] at hs
        rw [posR_less hu.2 hs]
        exact decide_eq_decide.2 (by simp [posR])
    | false =>
      cases h with
      | zero => simp at hs; subst hs; simp [ht]
      | succ h =>
        rw [List.getElem?_cons_succ] at hs
        have h1 := hu.1 s (List.mem_of_getElem? hs)
        cases hc : ltB s.1 key with
        | false => simp
        | true => have := ltB_trans h1 hc; rw [ht] at this; cases this
theorem putR_at (r : Rul) : ∀ {l : List Rul}, UpR l → putR r l = match l[posR r.1 l]? with
    | some s => if s.1 = r.1 then (if newer r s = true then l.set (posR r.1 l) r else l) else l.take (posR r.1 l) ++ r :: l.drop (posR r.1 l)
    | none => l.take (posR r.1 l) ++ r :: l.drop (posR r.1 l)
  | [], _ => by simp [putR, posR]
  | s :: l, hu => by
    rw [UpR, List.pairwise_cons] at hu
    have ih := putR_at r hu.2
    unfold putR
    cases hs : ltB s.1 r.1 with
    | true =>
      have hp : posR r.1 (s :: l) = posR r.1 l + 1 := by simp [posR, List.takeWhile_cons, hs]
      rw [if_pos rfl, hp, List.getElem?_cons_succ, ih]
      cases l[posR r.1 l]? with
      | none => simp
      | some t =>
        dsimp only
        split
        · split <;> simp
        · simp
    | false =>
      have hp : posR r.1 (s :: l) = 0 := by simp [posR, List.takeWhile_cons, hs]
      rw [if_neg (by simp), hp]
      dsimp only [List.getElem?_cons_zero]
      split
      · split <;> simp
      · simp
theorem look_at (r : ByteArray) : ∀ {l : List Rul}, UpR l → look r l = match l[posR r l]? with
    | some s => if s.1 = r then some s else none
    | none => none
  | [], _ => by simp [look, posR]
  | s :: l, hu => by
    rw [UpR, List.pairwise_cons] at hu
    have ih := look_at r hu.2
    unfold look
    cases hs : ltB s.1 r with
    | true =>
      have hp : posR r (s :: l) = posR r l + 1 := by simp [posR, List.takeWhile_cons, hs]
      rw [if_neg (ltB_ne hs), hp, List.getElem?_cons_succ, ih]
    | false =>
      have hp : posR r (s :: l) = 0 := by simp [posR, List.takeWhile_cons, hs]
      rw [hp]
      dsimp only [List.getElem?_cons_zero]
      split
      · rfl
      · rename_i hne
        cases hl : look r l with
        | none => rfl
        | some t =>
          obtain ⟨h1, h2⟩ := look_mem hl
          have h3 := hu.1 t h1
          rw [h2] at h3
          rw [h3] at hs; cases hs
theorem putR_old {r : Rul} : ∀ {l : List Rul}, UpR l → ∀ {s : Rul}, look r.1 l = some s → newer r s = false → putR r l = l := by
  intro l hu s hl hn
  rw [putR_at r hu]
  rw [look_at r.1 hu] at hl
  cases h : l[posR r.1 l]? with
  | none => rw [h] at hl; cases hl
  | some t =>
    rw [h] at hl
    dsimp only at hl ⊢
    split at hl
    · injection hl with hl
      subst hl
      rw [if_pos (by assumption), if_neg (by rw [hn]; simp)]
    · cases hl
end Go.Proofs.YtjpbjghdplbdcaaGreatDoor
end
