/-
  bottom.Many, culref.Guess: the walks. Conditions: the slice reads as a list of numbers; the bottom may be.
-/
import Derived.Test.YtkliebhpdcjdgaaBot
import Derived.Test.YtkliebhpdcjdgaaMulT
import Derived.Deep.QuietTactic
import Derived.BigQuiet
namespace Go.Proofs.Ytkliebhpdcjdgaa
open Go.RowKit

def guV (K : Int) (n : Nat) (xs : List Int) : Int := if (n : Int) < K then n else if xs.getD (n - 1) 0 = 0 then 0 else (72057594037927936 * (n - 1) / (xs.getD (n - 1) 0).toNat : Nat)
def guE (K : Int) (n : Nat) (xs : List Int) : Int := if (n : Int) < K then 0 else if xs.getD (n - 1) 0 = 0 then 6 else 0
section
variable {A : Option Addr} {n c : Nat} {xs : List Int} {w : World} {K : Int}
theorem bcheck_is (h : Si w A n c xs) {E : Int} (he : botErr K n xs = E) :
    Calls Try.prog 21 #[.agg #[.int .i64 K, .slice A n c]] w fun e w' => e = .returned (.int .i64 E) ∧ Below w.heap.size w w' := by
  have k := bcheck_any (K := K) h; rw [he] at k; exact k
theorem rbot_is (h : Si w A n c xs) {E : Int} (he : botErr K n xs = E) :
    Calls Try.prog 20 #[.agg #[.int .i64 K, .slice A n c]] w fun e w' => e = .returned (.int .i64 E) ∧ Below w.heap.size w w' := by
  have k := rbot_any (K := K) h; rw [he] at k; exact k
set_option maxRecDepth 20000 in
set_option maxHeartbeats 1600000 in
theorem many_bad (h : Si w A n c xs) {E : Int} (he : botErr K n xs = E) (h0 : ¬ E = 0) :
    Calls Try.prog 19 #[.agg #[.int .i64 K, .slice A n c]] w fun e w' => e = .returned (.tuple #[.int .i64 0, .int .i64 E]) ∧ Below w.heap.size w w' := by
  have t1 : (E != 0) = true := by simpa using h0
  have hb0 : Below w.heap.size w (w.alloc (.cells #[.int .i64 K, .slice A n c] 37)) := by repeat' (first | assumption | with_reducible exact Below.refl _ _ | with_reducible apply Below.drew | with_reducible apply below_drewN | with_reducible apply below_alloc | with_reducible refine below_set ?_ ?_ _ | (simp only [World.size_alloc, World.heap_drewN]; omega) | (simp; omega))
  have HC := hide (bcheck_is (h.on hb0) he)
  clear he h0
  go_enter Try.func19, Try.ntmps19
  go_wp2_with fail
  refine HC.out.mono ?_
  rintro e w1 ⟨rfl, bel⟩
  go_wp2_with fail
  go_ret2
  exact ⟨rfl, below_on hb0 bel⟩
set_option maxRecDepth 20000 in
set_option maxHeartbeats 3200000 in
theorem many_ok (h : Si w A n c xs) (he : botErr K n xs = 0) {V F : Int} (hV : guV K n xs = V) (hF : guE K n xs = F) :
    Calls Try.prog 19 #[.agg #[.int .i64 K, .slice A n c]] w fun e w' => e = .returned (.tuple #[.int .i64 V, .int .i64 F]) ∧ Below w.heap.size w w' := by
  have hl := h.ilen
  obtain ⟨k1, k40, hnK, hup, hdr⟩ := botErr_ok hl he
  have b0 := Blk.new w 37 #[.int .i64 K, .slice A n c]
  have hb0 : Below w.heap.size w (w.alloc (.cells #[.int .i64 K, .slice A n c] 37)) := by repeat' (first | assumption | with_reducible exact Below.refl _ _ | with_reducible apply Below.drew | with_reducible apply below_drewN | with_reducible apply below_alloc | with_reducible refine below_set ?_ ?_ _ | (simp only [World.size_alloc, World.heap_drewN]; omega) | (simp; omega))
  have HC := hide (bcheck_is (h.on hb0) he)
  clear he
  by_cases hn : (n : Int) < K
  · have e1 : V = (n : Int) := by rw [← hV]; exact if_pos hn
    have e2 : F = 0 := by rw [← hF]; exact if_pos hn
    rw [e1, e2]
    clear hV hF e1 e2 hup hdr hl
    go_enter Try.func19, Try.ntmps19
    go_wp2_with fail
    refine HC.out.mono ?_
    rintro e w1 ⟨rfl, bel⟩
    have b1 := b0.below bel b0.lt
    have c0 := b1.at_ (i := 0) (u := .int .i64 K) rfl
    have c1 := b1.at_ (i := 1) (u := .slice A n c) rfl
    go_wp2_with fail
    go_ret2
    exact ⟨rfl, below_on hb0 bel⟩
  · obtain ⟨m, hm⟩ : ∃ m : Nat, n = m + 1 := ⟨n - 1, by omega⟩
    have hm1 : (n : Int) - 1 = (m : Int) := by omega
    have hK : K = (n : Int) := by omega
    subst hK
    have hcell := (h.on hb0).icell (show m < n by omega)
    obtain ⟨ad, x, rfl, hbk, hx, hc⟩ := hcell
    have hx0 := hdr x (List.mem_of_getElem? hx)
    have hg : xs.getD (n - 1) 0 = x := by rw [show n - 1 = m by omega, getD_of hx]
    unfold guV at hV
    unfold guE at hF
    rw [if_neg (by omega), hg] at hV hF
    clear hup hdr hl hx hg hnK
    have HM := hide hm
    clear hm
    by_cases hz : x = 0
    · subst hz
      rw [if_pos rfl] at hV hF
      subst hV
      subst hF
      go_enter Try.func19, Try.ntmps19
      go_wp2_with fail
      refine HC.out.mono ?_
      rintro e w1 ⟨rfl, bel⟩
      have b1 := b0.below bel b0.lt
      have c0 := b1.at_ (i := 0) (u := .int .i64 n) rfl
      have c1 := b1.at_ (i := 1) (u := .slice (some ad) n c) rfl
      have hc1 := (bel.cell (p := ad.add m) (by rw [add_block]; exact hbk)).trans hc
      go_wp2_with fail
      go_ret2
      exact ⟨rfl, below_on hb0 bel⟩
    · rw [if_neg hz] at hV hF
      subst hF
      obtain ⟨L, rfl⟩ : ∃ L : Nat, x = (L : Int) := ⟨x.toNat, by omega⟩
      have hL : 0 < L := by omega
      have tz : ((L : Int) == 0) = false := by simpa using hz
      obtain ⟨N, hN⟩ : ∃ N, 72057594037927936 * m = N := ⟨_, rfl⟩
      have hNb : N < 18446744073709551616 := by have := HM.out; omega
      have e1 : N / 18446744073709551616 = 0 := by omega
      have e2 : N % 18446744073709551616 = N := by omega
      obtain ⟨Q, hQ⟩ : ∃ Q, N / L = Q := ⟨_, rfl⟩
      have hQb : Q ≤ N := by rw [← hQ]; exact Nat.div_le_self _ _
      have hN9 : N ≤ 2882303761517117440 := by have := HM.out; omega
      have hVQ : V = (Q : Int) := by rw [← hV, show n - 1 = m by have := HM.out; omega, hN, Int.toNat_natCast, hQ]
      subst hVQ
      have CM := hide (fun w => mul64 (x := 72057594037927936) (y := m) hN (by decide) (by have := HM.out; omega) w)
      rw [e1, e2] at CM
      have CD := hide (fun w => div64 (hi := 0) (lo := N) (y := L) (N := N) (by omega) hL (by omega) hNb w hQ rfl)
      have mw : IntKind.u64.wrap (m : Int) = m := by rw [IntKind.wrap_u64]; have := HM.out; omega
      have lw : IntKind.u64.wrap (L : Int) = L := by rw [IntKind.wrap_u64]; omega
      have qw : IntKind.i64.wrap (Q : Int) = Q := IntWalk.i64_in _ (by omega)
      obtain ⟨R, hR⟩ : ∃ R, N % L = R := ⟨_, rfl⟩
      rw [hR] at CD
      clear hV hz hN e1 e2 hQ hR
      go_enter Try.func19, Try.ntmps19
      go_wp2_with fail
      refine HC.out.mono ?_
      rintro e w1 ⟨rfl, bel⟩
      have b1 := b0.below bel b0.lt
      have c0 := b1.at_ (i := 0) (u := .int .i64 n) rfl
      have c1 := b1.at_ (i := 1) (u := .slice (some ad) n c) rfl
      have hc1 := (bel.cell (p := ad.add m) (by rw [add_block]; exact hbk)).trans hc
      go_wp2_with fail
      refine (CM.out _).mono ?_
      rintro e w2 ⟨rfl, rfl⟩
      go_wp2_with fail
      refine (CD.out _).mono ?_
      rintro e w3 ⟨rfl, q, rfl⟩
      go_wp2_with fail
      go_ret2
      exact ⟨rfl, below_drewN (below_on hb0 bel) q⟩
set_option maxRecDepth 20000 in
set_option maxHeartbeats 3200000 in
theorem guess_ok (h : Si w A n c xs) (he : botErr K n xs = 0) {V F : Int} (hV : guV K n xs = V) (hF : guE K n xs = F) :
    Calls Try.prog 23 #[.agg #[.int .i64 K, .slice A n c]] w fun e w' => e = .returned (.tuple #[.int .i64 V, .int .i64 F]) ∧ Below w.heap.size w w' := by
  have hl := h.ilen
  obtain ⟨k1, k40, hnK, hup, hdr⟩ := botErr_ok hl he
  have b0 := Blk.new w 37 #[.int .i64 K, .slice A n c]
  have hb0 : Below w.heap.size w (w.alloc (.cells #[.int .i64 K, .slice A n c] 37)) := by repeat' (first | assumption | with_reducible exact Below.refl _ _ | with_reducible apply Below.drew | with_reducible apply below_drewN | with_reducible apply below_alloc | with_reducible refine below_set ?_ ?_ _ | (simp only [World.size_alloc, World.heap_drewN]; omega) | (simp; omega))
  have c0 := b0.at_ (i := 0) (u := .int .i64 K) rfl
  have c1 := b0.at_ (i := 1) (u := .slice A n c) rfl
  clear he
  by_cases hn : (n : Int) < K
  · have e1 : V = (n : Int) := by rw [← hV]; exact if_pos hn
    have e2 : F = 0 := by rw [← hF]; exact if_pos hn
    rw [e1, e2]
    clear hV hF e1 e2 hup hdr hl
    go_enter Try.func23, Try.ntmps23
    go_wp2_with fail
    go_ret2
    exact ⟨rfl, hb0⟩
  · obtain ⟨m, hm⟩ : ∃ m : Nat, n = m + 1 := ⟨n - 1, by omega⟩
    have hm1 : (n : Int) - 1 = (m : Int) := by omega
    have hK : K = (n : Int) := by omega
    subst hK
    have hcell := (h.on hb0).icell (show m < n by omega)
    obtain ⟨ad, x, rfl, hbk, hx, hc⟩ := hcell
    have hx0 := hdr x (List.mem_of_getElem? hx)
    have hg : xs.getD (n - 1) 0 = x := by rw [show n - 1 = m by omega, getD_of hx]
    unfold guV at hV
    unfold guE at hF
    rw [if_neg (by omega), hg] at hV hF
    have hmn : m < n := by omega
    have hm39 : m ≤ 39 := by omega
    clear hup hdr hl hx hg hnK
    have HM := hide hm
    clear hm
    by_cases hz : x = 0
    · subst hz
      rw [if_pos rfl] at hV hF
      subst hV
      subst hF
      go_enter Try.func23, Try.ntmps23
      go_wp2_with fail
      go_ret2
      exact ⟨rfl, hb0⟩
    · rw [if_neg hz] at hV hF
      subst hF
      obtain ⟨L, rfl⟩ : ∃ L : Nat, x = (L : Int) := ⟨x.toNat, by omega⟩
      have hL : 0 < L := by omega
      have tz : ((L : Int) == 0) = false := by simpa using hz
      have hgi := guess_is (k := m) hL
      obtain ⟨P, hP⟩ : ∃ P, 72057594037927936 / L = P := ⟨_, rfl⟩
      obtain ⟨R, hR⟩ : ∃ R, 72057594037927936 % L = R := ⟨_, rfl⟩
      have hPb : P ≤ 72057594037927936 := by rw [← hP]; exact Nat.div_le_self _ _
      have hRb : R < L := by rw [← hR]; exact Nat.mod_lt _ hL
      rw [hP, hR] at hgi
      obtain ⟨S, hS⟩ : ∃ S, m * P = S := ⟨_, rfl⟩
      obtain ⟨T, hT⟩ : ∃ T, m * R = T := ⟨_, rfl⟩
      obtain ⟨U, hU⟩ : ∃ U, T / L = U := ⟨_, rfl⟩
      have hSb : S ≤ 2810246167479189504 := by rw [← hS]; exact Nat.le_trans (Nat.mul_le_mul hm39 hPb) (by decide)
      have hTb : T ≤ 2810246167479189504 := by rw [← hT]; exact Nat.le_trans (Nat.mul_le_mul hm39 (show R ≤ 72057594037927936 by omega)) (by decide)
      have hUb : U ≤ T := by rw [← hU]; exact Nat.div_le_self _ _
      rw [hS, hT, hU] at hgi
      have hVQ : V = ((S + U : Nat) : Int) := by rw [← hV, show n - 1 = m by have := HM.out; omega, Int.toNat_natCast, ← hgi]
      have i1 : (72057594037927936 : Int).tdiv (L : Int) = (P : Int) := by rw [← hP]; rfl
      have i2 : (72057594037927936 : Int).tmod (L : Int) = (R : Int) := by rw [← hR]; rfl
      have j1 : (72057594037927936 : Int) / (L : Int) = (P : Int) := by rw [← hP]; rfl
      have j2 : (72057594037927936 : Int) % (L : Int) = (R : Int) := by rw [← hR]; rfl
      have i3 : (m : Int) * (P : Int) = (S : Int) := by rw [← hS]; exact (Int.natCast_mul m P).symm
      have i4 : (m : Int) * (R : Int) = (T : Int) := by rw [← hT]; exact (Int.natCast_mul m R).symm
      have i5 : (T : Int) / (L : Int) = (U : Int) := by rw [← hU]; exact (Int.natCast_ediv T L).symm
      have i6 : (T : Int).tdiv (L : Int) = (U : Int) := by rw [← hU]; rfl
      clear hV hz hgi hP hR hS hT hU
      subst hVQ
      go_enter Try.func23, Try.ntmps23
      go_wp2_with fail
      go_quiet (fail)
      go_wp2_with fail
      go_quiet (fail)
      go_wp2_with fail
      go_ret2
      exact ⟨by simp, below_drewN (below_drewN hb0 _) _⟩
end
end Go.Proofs.Ytkliebhpdcjdgaa
