/- Proves the parts of the claim that its last text joins: Digit5T, TopD, LawTDesk. Conditions: those that each theorem names. -/
import Derived.Test.YtjpbjghdplbdcaaGreatDoorM45
import Derived.Test.YtjpbjghdplbdcaaGreatDoorM06
import Derived.Test.YtjpbjghdplbdcaaGreatDoorM44
import Derived.Shelf.Strings.Prefix
import Derived.Deep.QuietTactic
import Derived.BigQuiet
section
namespace Go.Proofs.YtjpbjghdplbdcaaGreatDoor
open Go.RowKit Go.Sort
def OrdRet (w : World) (n : Nat) (zs : List Int) (e : Ending) (w' : World) : Prop :=
  ∃ A c, e = .returned (.tuple #[.slice A n c, .int .i64 0]) ∧ Own w' w.heap.size 3 1 A n c (ints zs) ∧ Below w.heap.size w w'
section
variable {w : World} {n r : Int}
end
section
variable {w : World}
set_option maxRecDepth 20000 in
set_option maxHeartbeats 1600000 in
theorem order_ok {m r : Nat} (hm : m ≤ 12) (hr : r < fac m) :
    Calls Tryz.prog 26 #[.int .i64 m, .int .i64 r] w (OrdRet w m (casts (unr (List.range m) m r))) := by
  have HF := hide fact_any
  have hf := (fac_i hm).2
  have hrF : (r : Int) < (fac m : Int) := by omega
  have HFm := hide (fact_any m hm)
  obtain ⟨F, hF⟩ : ∃ F, (fac m : Int) = F := ⟨_, rfl⟩
  rw [hF] at hrF HFm hf
  have HR := hide hr
  clear hF hr
  go_enter Tryz.func26, Tryz.ntmps26
  go_wp2_with (first | (go_at_call 76; refine (HFm.out _).mono ?_; rintro e w' ⟨rfl, rfl⟩))
  go_loopw [6, 26] (fun l i wr => ∃ (k : Nat) (A : Option Addr) (c : Nat), k ≤ m ∧ i = .int .i64 k ∧ l = .slice A k c ∧ Own wr w.heap.size 3 1 A k c (ints (casts (List.range k))) ∧ Below w.heap.size w wr) (fun _ i _ => m - (intOf i).toNat)
  case atStart => exact ⟨0, none, 0, Nat.zero_le _, rfl, rfl, Own.nil _ _ _ _, Below.refl _ _⟩
  case round =>
    obtain ⟨k, A, c, hk, rfl, rfl, own, hb⟩ := hrel
    have zr := hb.size
    by_cases hlt : k < m
    · go_wp2_with (at_builtin; refine wpList_append_sl T_int rfl _ _ rfl (by rfl) (by rfl) (own.alloc _) (Sl.lit (at_new _ _)) (ints_one [(k : Int)]) (by simp only [maxLen]; omega) (by omega) (by simp; omega) ?_; intro A2 c2 w2 ap)
      have own2 := ap.own
      have hb2 : Below w.heap.size w w2 := (hb.alloc zr _).trans ap.below
      rw [show ints (casts (List.range k)) ++ [Value.int .i64 (k : Int)] = ints (casts (List.range (k + 1))) from by rw [List.range_succ, casts_append, ints_append]; rfl] at own2
      clear ap
      go_wp2_with fail
      go_roundw
      case rel => exact ⟨k + 1, A2, c2, by omega, by go_num, rfl, own2, hb2⟩
      case measure => simp [intOf]; omega
    · obtain rfl : k = m := by omega
      go_wp2_with fail
      go_loopw [1, 6, 7, 9] (fun vr vl vo vi wr => ∃ (d ri : Nat) (lf ou : List Nat) (A A' : Option Addr) (c c' : Nat), d ≤ k ∧ vi = .int .i64 ((d : Int) - 1) ∧ vr = .int .i64 ri ∧ vl = .slice A d c ∧ vo = .slice A' (k - d) c' ∧ ri < fac d ∧ ou ++ unr lf d ri = unr (List.range k) k r ∧ Apart A A' ∧
          Own wr w.heap.size 3 1 A d c (ints (casts lf)) ∧ Own wr w.heap.size 3 1 A' (k - d) c' (ints (casts ou)) ∧ Below w.heap.size w wr) (fun _ _ _ i _ => (intOf i + 1).toNat)
      case atStart => exact ⟨k, r, List.range k, [], A, none, c, 0, Nat.le_refl _, rfl, rfl, rfl, by rw [Nat.sub_self], HR.out, rfl, Apart.nil' _, own, by rw [Nat.sub_self]; exact Own.nil _ _ _ _, hb⟩
      case round =>
        clear own hb zr hlt
        obtain ⟨d, ri, lf, ou, A, A', c, c', hd, rfl, rfl, rfl, rfl, hri, hun, hap, own, ow2, hb⟩ := hrel
        have zr := hb.size
        have HUN := hide hun
        clear hun
        by_cases h0 : 0 < d
        · obtain ⟨e, rfl⟩ : ∃ e, d = e + 1 := ⟨d - 1, by omega⟩
          have e1 : ((e + 1 : Nat) : Int) - 1 = (e : Int) := by omega
          rw [e1]
          obtain ⟨f1, f2⟩ := fac_i (k := e) (by omega)
          have hk1 := first_lt hri
          have hmod := Nat.mod_lt ri (fac_pos e)
          have q1 : (ri : Int) / (fac e : Int) = ((ri / fac e : Nat) : Int) := rfl
          have q2 : (ri : Int) % (fac e : Int) = ((ri % fac e : Nat) : Int) := rfl
          have hu : unr lf (e + 1) ri = lf.getD (ri / fac e) 0 :: unr (lf.eraseIdx (ri / fac e)) e (ri % fac e) := rfl
          have HFe := hide (fact_any e (by omega))
          have hri2 := (fac_i (k := e + 1) (by omega)).2
          have hri3 : (ri : Int) ≤ 479001600 := by omega
          obtain ⟨kk, hkk⟩ : ∃ kk, ri / fac e = kk := ⟨_, rfl⟩
          obtain ⟨r2, hr2⟩ : ∃ r2, ri % fac e = r2 := ⟨_, rfl⟩
          rw [hkk] at hk1 q1 hu
          rw [hr2] at hmod q2 hu
          obtain ⟨F, hF⟩ : ∃ F, (fac e : Int) = F := ⟨_, rfl⟩
          rw [hF] at f1 f2 q1 q2 HFe
          clear hkk hr2 hF
          have HMOD := hide hmod
          have HU := hide hu
          have HRI := hide hri
          clear hmod hu hri hri2
          obtain ⟨g, rfl, hg1, hg2⟩ := own.addr (by omega)
          have hll : lf.length = e + 1 := by have := own.sl.ilen; rwa [casts_len] at this
          have hx : lf[kk]? = some (lf.getD kk 0) := by rw [List.getD, List.getElem?_eq_getElem (by omega)]; rfl
          obtain ⟨x, hxe⟩ : ∃ x, lf.getD kk 0 = x := ⟨_, rfl⟩
          rw [hxe] at hx HU
          have hcx := own.cell (j := kk) (u := .int .i64 (x : Int)) (by rw [ints_getElem?, casts_at hx]; rfl)
          clear hx hxe
          go_wp2_with (first | (go_at_call 76; refine (HFe.out _).mono ?_; rintro e w' ⟨rfl, rfl⟩) | (at_builtin; refine wpList_append_sl T_int rfl _ _ rfl (by rfl) (by rfl) (ow2.alloc _) (Sl.lit (at_new _ _)) (ints_one [(x : Int)]) (by simp only [maxLen]; omega) (by omega) (by simp; omega) ?_; intro A2 c2 w2 ap))
          have ownD := (own.alloc (.cells #[.int .i64 (x : Int)] 3)).grown_apart ap hap.symm
          have hapn := ap.apart (own.alloc (.cells #[.int .i64 (x : Int)] 3)) hap.symm
          have ow3 := ap.own
          have hb2 : Below w.heap.size w w2 := (hb.alloc zr _).trans ap.below
          have e2 : k - (e + 1) + 1 = k - e := by omega
          rw [e2] at ow3 ⊢
          rw [show ints (casts ou) ++ [Value.int .i64 (x : Int)] = ints (casts (ou ++ [x])) from by rw [casts_append, ints_append]; rfl] at ow3
          clear ap
          refine (delete_row ownD (k := kk) (by omega) rfl).mono ?_
          rintro e' w3 ⟨rfl, dl⟩
          have ownF := dl.own
          rw [show (casts lf).eraseIdx kk = casts (lf.eraseIdx kk) from map_erase _ _ _] at ownF
          have ow4 := dl.far _ _ _ _ _ _ _ ow3 (fun hA => hapn g hA rfl)
          have hb3 := dl.below _ _ hb2 hg1
          clear dl ownD
          go_wp2_with fail
          go_roundw
          case rel => exact ⟨e, r2, lf.eraseIdx kk, ou ++ [x], _, A2, c, c2, by omega, rfl, rfl, rfl, rfl, HMOD.out, by rw [List.append_assoc, ← HUN.out, HU.out]; rfl, hapn.symm, ownF, ow4, hb3⟩
          case measure => simp [intOf]
        · obtain rfl : d = 0 := by omega
          have hou : ou = unr (List.range k) k r := by
            have := HUN.out
            rwa [show unr lf 0 ri = [] from rfl, List.append_nil] at this
          rw [hou, Nat.sub_zero] at ow2
          go_wp2_with fail
          go_ret2
          exact ⟨_, _, rfl, ow2, hb⟩
end
end Go.Proofs.YtjpbjghdplbdcaaGreatDoor
end
section
namespace Go.Proofs.YtjpbjghdplbdcaaGreatDoor
open Go.RowKit
theorem within_m {m : Nat} (m1 : 1 ≤ m) (m2 : m ≤ 1000000) (x : Int) (w : World) : Calls Tryz.prog 10 #[.int .i64 x, .int .i64 m] w fun e w' => (∃ p : Nat, p < m ∧ e = .returned (.int .i64 p)) ∧ w = w' := by
  obtain ⟨q, hq⟩ : ∃ q : Nat, IntKind.u64.wrap x = (q : Int) := ⟨(x % 18446744073709551616).toNat, by rw [IntKind.wrap_u64]; omega⟩
  obtain ⟨p, hp, hp9⟩ : ∃ p : Nat, q % m = p ∧ p < m := ⟨_, rfl, Nat.mod_lt _ (by omega)⟩
  have hr : (q : Int) % (m : Int) = (p : Int) := by rw [← hp]; exact (Int.natCast_emod q m).symm
  have h9 : IntKind.u64.wrap (m : Int) = m := by rw [IntKind.wrap_u64]; omega
  have hq0 : IntKind.i64.wrap (p : Int) = p := IntWalk.i64_in _ (by omega)
  have hm0 : ¬ (m : Int) = 0 := by omega
  have hb0 : ((m : Int) == 0) = false := by simpa using hm0
  clear hp
  have HR := hide hr
  clear hr
  go_enter Tryz.func10, Tryz.ntmps10
  go_wp2_with fail
  go_ret
  exact ⟨⟨p, hp9, by show Ending.returned (Value.int .i64 (wrap64 ((q : Int) % (m : Int)))) = _; rw [HR.out, show wrap64 (p : Int) = p by unfold wrap64; omega]⟩, rfl⟩

theorem unr21 : casts (unr (List.range 2) 2 1) = [1, 0] := by decide
set_option maxRecDepth 20000 in
set_option maxHeartbeats 1600000 in
theorem begun_ok (w : World) : Calls Tryz.prog 13 #[] w fun e w' => e = .returned (.bool true) ∧ Below w.heap.size w w' := by
  have k := fun w => order_ok (w := w) (m := 2) (r := 1) (by decide) (by decide)
  rw [unr21] at k
  have K := hide k
  clear k
  go_enter Tryz.func13, Tryz.ntmps13
  go_wp2_with fail
  refine (K.out _).mono ?_
  rintro e w1 ⟨A, c, rfl, own, hb⟩
  have S1 := own.sl
  have es : same [1, 0] [1, 0] = true := same_yes rfl
  go_wp2_with fail
  refine (equal_yes _ _ 2 c 2 [1, 0] _ (S1.on (by repeat' (first | assumption | with_reducible exact Below.refl _ _ | with_reducible apply Below.drew | with_reducible apply below_drewN | with_reducible apply below_alloc | with_reducible refine below_set ?_ ?_ _ | (simp only [World.size_alloc, World.heap_drewN]; omega) | (simp; omega)))) (Sl.blk 1 2 (e := 3) (by simp only [heap_alloc_get, World.size_alloc]; simp [ints]) rfl (by simp [maxLen]))).mono ?_
  rintro e w2 ⟨rfl, q, rfl⟩
  go_wp2_with fail
  go_ret
  exact ⟨rfl, by repeat' (first | assumption | with_reducible exact Below.refl _ _ | with_reducible apply Below.drew | with_reducible apply below_drewN | with_reducible apply below_alloc | with_reducible refine below_set ?_ ?_ _ | (simp only [World.size_alloc, World.heap_drewN]; omega) | (simp; omega))⟩
end Go.Proofs.YtjpbjghdplbdcaaGreatDoor
end
section
namespace Go.Proofs.YtjpbjghdplbdcaaGreatDoor
open Go.RowKit Go.Shelf
def laysPreD_ren : Go.Shelf.Ren := ⟨fun | 99 => 12 | 206 => 25 | n => n, fun | 9 => 9 | 4 => 4 | 3 => 3 | n => n, fun | n => n⟩
theorem laysPreD : Go.Proofs.Lays.n99 Tryz.prog laysPreD_ren := {
  mixed := by kernel_rfl
  f99 := Tryz.func12.trans (congrArg some (by kernel_rfl))
  f206 := Tryz.func25.trans (congrArg some (by kernel_rfl))
  t3 := Tryz.underlying3
  a3 := Tryz.isAgg3
  z3 := Tryz.sizeOf3
  v3 := Tryz.zeroValue3
  t4 := Tryz.underlying4
  a4 := Tryz.isAgg4
  z4 := Tryz.sizeOf4
  v4 := Tryz.zeroValue4
  t9 := Tryz.underlying9
  a9 := Tryz.isAgg9
  z9 := Tryz.sizeOf9
  v9 := Tryz.zeroValue9 }
theorem preD_any (x : List UInt8) (w : World) : Calls Tryz.prog 12 #[.string (tx x), .string ⟨#[111, 107]⟩] w fun e w' => e = .returned (.bool (Lib.hasPrefix x [111, 107])) ∧ w' = w :=
  Any.strings_HasPrefix { laysPreD with } (tx x) ⟨#[111, 107]⟩ w
theorem cutD_any {b : Nat} {w : World} (hL : LibW b w) {x : List UInt8} (hx : x.length ≤ 65536) : Calls Tryz.prog 9 #[.string (tx x), .string ⟨#[10]⟩] w fun e w' => e = .returned (.tuple #[.string (tx (cutB 10 x)), .string (tx (cutA 10 x)), .bool (cutOk 10 x)]) ∧ ∃ q, w' = w.drewN q := by
  obtain ⟨m, hm⟩ := hL.mset
  have k := Any.strings_Cut { laysCutD with } (tx x) ⟨#[10]⟩ m w (by rw [tx_size]; omega) hm
  rw [show (tx x).data.toList = x from rfl, show (⟨#[10]⟩ : ByteArray).data.toList = [10] from rfl, cut_is] at k
  exact k
theorem inTo_size : ∀ i, (inTo i).length ≤ 120 * i
  | 0 => Nat.le_refl _
  | i + 1 => by
    have h := inTo_size i
    have h1 := dec_size ((i % 2 : Nat) : Int)
    have h2 := dec_size ((100 - i : Nat) : Int)
    have h3 := dec_size (i : Int)
    simp only [inTo, inLine, List.length_append, List.length_cons, List.length_nil]
    omega
set_option maxRecDepth 20000 in
set_option maxHeartbeats 3200000 in
theorem law_tdesk (a : Int) {b : Nat} {w : World} (hL : LibW b w) (hb : b ≤ w.heap.size) :
    Calls Tryz.prog 4 #[.int .i64 a] w fun e w' => e = .returned (.bool true) ∧ Below w.heap.size w w' := by
  have HL := hide hL
  clear hL
  go_enter Tryz.func4, Tryz.ntmps4
  go_wp2_with fail
  refine (within_m (m := 20) (by decide) (by decide) _ _).mono ?_
  rintro e w' ⟨⟨k, hk, rfl⟩, rfl⟩
  obtain ⟨n, hn⟩ : ∃ n, k + 1 = n := ⟨_, rfl⟩
  have hn1 : 1 ≤ n := by omega
  have hn2 : n ≤ 20 := by omega
  have HD := hide (day_any hn1 hn2)
  go_wp2_with fail
  rw [show (1 : Int) + (k : Int) = (n : Int) by omega]
  clear hn hk
  go_loopw [3, 16] (fun vs vi wr => ∃ i : Nat, i ≤ n ∧ vi = .int .i64 i ∧ vs = .string (tx (inTo i)) ∧ Below w.heap.size w wr) (fun _ vi _ => n - (intOf vi).toNat)
  case atStart => exact ⟨0, Nat.zero_le _, rfl, rfl, by repeat' (first | assumption | with_reducible exact Below.refl _ _ | with_reducible apply Below.drew | with_reducible apply below_drewN | with_reducible apply below_alloc | with_reducible refine below_set ?_ ?_ _ | (simp only [World.size_alloc, World.heap_drewN]; omega) | (simp; omega))⟩
  case round =>
    obtain ⟨i, hi, rfl, rfl, hbr⟩ := hrel
    by_cases hlt : i < n
    · have hz := inTo_size i
      have HI := hide (show inTo (i + 1) = inTo i ++ inLine i from rfl)
      have C0 := hide (fun w => rdec_is (m := i % 2) (by omega) w)
      have C1 := hide (fun w => rdec_is (m := 100 - i) (by omega) w)
      have C2 := hide (fun w => rdec_is (m := i) (by omega) w)
      have e100 : (100 : Int) - (i : Int) = ((100 - i : Nat) : Int) := by omega
      have s0 := dec_size ((i % 2 : Nat) : Int)
      have s1 := dec_size ((100 - i : Nat) : Int)
      have s2 := dec_size (i : Int)
      unfold inLine at HI
      generalize inTo i = T at hz HI ⊢
      generalize dec ((i % 2 : Nat) : Int) = D0 at C0 HI s0
      generalize dec ((100 - i : Nat) : Int) = D1 at C1 HI s1
      generalize dec (i : Int) = D2 at C2 HI s2
      have hzT := tx_size T
      have hzD0 := tx_size D0
      have hzD1 := tx_size D1
      have hzD2 := tx_size D2
      have z1 : ((⟨#[102, 101, 119, 32]⟩ : ByteArray) ++ tx D0).size = 4 + D0.length := by rw [ByteArray.size_append, tx_size]; rfl
      have z2 : (((⟨#[102, 101, 119, 32]⟩ : ByteArray) ++ tx D0) ++ (⟨#[32, 49, 10, 108, 101, 97, 115, 116, 32]⟩ : ByteArray)).size = 4 + D0.length + 9 := by rw [ByteArray.size_append, z1]; rfl
      have z3 : ((((⟨#[102, 101, 119, 32]⟩ : ByteArray) ++ tx D0) ++ (⟨#[32, 49, 10, 108, 101, 97, 115, 116, 32]⟩ : ByteArray)) ++ tx D1).size = 4 + D0.length + 9 + D1.length := by rw [ByteArray.size_append, z2, tx_size]
      have z4 : (((((⟨#[102, 101, 119, 32]⟩ : ByteArray) ++ tx D0) ++ (⟨#[32, 49, 10, 108, 101, 97, 115, 116, 32]⟩ : ByteArray)) ++ tx D1) ++ (⟨#[10, 112, 111, 110, 100, 32]⟩ : ByteArray)).size = 4 + D0.length + 9 + D1.length + 6 := by rw [ByteArray.size_append, z3]; rfl
      have z5 : ((((((⟨#[102, 101, 119, 32]⟩ : ByteArray) ++ tx D0) ++ (⟨#[32, 49, 10, 108, 101, 97, 115, 116, 32]⟩ : ByteArray)) ++ tx D1) ++ (⟨#[10, 112, 111, 110, 100, 32]⟩ : ByteArray)) ++ tx D2).size = 4 + D0.length + 9 + D1.length + 6 + D2.length := by rw [ByteArray.size_append, z4, tx_size]
      have z6 : (((((((⟨#[102, 101, 119, 32]⟩ : ByteArray) ++ tx D0) ++ (⟨#[32, 49, 10, 108, 101, 97, 115, 116, 32]⟩ : ByteArray)) ++ tx D1) ++ (⟨#[10, 112, 111, 110, 100, 32]⟩ : ByteArray)) ++ tx D2) ++ (⟨#[32]⟩ : ByteArray)).size = 4 + D0.length + 9 + D1.length + 6 + D2.length + 1 := by rw [ByteArray.size_append, z5]; rfl
      have z7 : ((((((((⟨#[102, 101, 119, 32]⟩ : ByteArray) ++ tx D0) ++ (⟨#[32, 49, 10, 108, 101, 97, 115, 116, 32]⟩ : ByteArray)) ++ tx D1) ++ (⟨#[10, 112, 111, 110, 100, 32]⟩ : ByteArray)) ++ tx D2) ++ (⟨#[32]⟩ : ByteArray)) ++ tx D2).size = 4 + D0.length + 9 + D1.length + 6 + D2.length + 1 + D2.length := by rw [ByteArray.size_append, z6, tx_size]
      have z8 : (((((((((⟨#[102, 101, 119, 32]⟩ : ByteArray) ++ tx D0) ++ (⟨#[32, 49, 10, 108, 101, 97, 115, 116, 32]⟩ : ByteArray)) ++ tx D1) ++ (⟨#[10, 112, 111, 110, 100, 32]⟩ : ByteArray)) ++ tx D2) ++ (⟨#[32]⟩ : ByteArray)) ++ tx D2) ++ (⟨#[10]⟩ : ByteArray)).size = 4 + D0.length + 9 + D1.length + 6 + D2.length + 1 + D2.length + 1 := by rw [ByteArray.size_append, z7]; rfl
      have z9 : (tx T).size + (((((((((⟨#[102, 101, 119, 32]⟩ : ByteArray) ++ tx D0) ++ (⟨#[32, 49, 10, 108, 101, 97, 115, 116, 32]⟩ : ByteArray)) ++ tx D1) ++ (⟨#[10, 112, 111, 110, 100, 32]⟩ : ByteArray)) ++ tx D2) ++ (⟨#[32]⟩ : ByteArray)) ++ tx D2) ++ (⟨#[10]⟩ : ByteArray)).size = T.length + (4 + D0.length + 9 + D1.length + 6 + D2.length + 1 + D2.length + 1) := by rw [tx_size, z8]
      go_wp2_with fail
      refine (C0.out _).mono ?_
      rintro e w' ⟨rfl, rfl⟩
      go_wp2_with fail
      refine (C1.out _).mono ?_
      rintro e w' ⟨rfl, rfl⟩
      go_wp2_with fail
      refine (C2.out _).mono ?_
      rintro e w' ⟨rfl, rfl⟩
      go_wp2_with fail
      refine (C2.out _).mono ?_
      rintro e w' ⟨rfl, rfl⟩
      go_wp2_with fail
      go_roundw
      case rel => exact ⟨i + 1, by omega, by go_num, by rw [HI.out, ← tx_app, ← tx_app, ← tx_app, ← tx_app, ← tx_app, ← tx_app, ← tx_app, ← tx_app, ← tx_app]; rfl, hbr⟩
      case measure => simp [intOf]; omega
    · obtain rfl : n = i := by omega
      have hz := inTo_size n
      have HI := hide (show inAll n = inTo n ++ inTail from rfl)
      have CR := hide (fun (w' : World) (hb' : Below w.heap.size w w') => run_any (s := inAll n) (HL.out.below (hb'.mono hb)) (by have := hb'.size; omega) (script_of HD.out.1).1 (script_of HD.out.1).2.1 (script_of HD.out.1).2.2.1 (script_of HD.out.1).2.2.2)
      have HG := hide HD.out.2.1
      have HS := hide HD.out.2.2
      generalize inTo n = T at hz HI ⊢
      generalize inAll n = IN at HI CR HG HS
      generalize runP IN = G at CR HG HS
      have EIN : tx T ++ (⟨#[97, 115, 107, 32, 48, 10, 97, 115, 107, 32, 55, 10, 109, 97, 110, 121, 10, 114, 117, 108, 101, 32, 97, 32, 51, 32, 53, 10, 114, 117, 108, 101, 32, 97, 32, 50, 32, 52, 10, 114, 117, 108, 101, 32, 97, 32, 51, 32, 53, 10, 111, 102, 32, 97, 98, 99, 10, 111, 102, 32, 98, 10, 116, 104, 32, 51, 54, 48, 50, 56, 55, 57, 55, 48, 49, 56, 57, 54, 51, 57, 54, 56, 10, 112, 97, 114, 116, 32, 49, 32, 52, 10, 99, 111, 117, 110, 116, 32, 53, 32, 51, 54, 48, 50, 56, 55, 57, 55, 48, 49, 56, 57, 54, 51, 57, 54, 56, 10, 109, 97, 114, 107, 32, 120, 61, 49, 44, 114, 118, 61, 48, 48, 48, 48, 48, 48, 48, 48, 48, 48, 48, 48, 48, 49, 44, 116, 104, 61, 56, 10]⟩ : ByteArray) = tx IN := by rw [HI.out, ← tx_app]; rfl
      have hzT := tx_size T
      have z1 : (tx T).size + (⟨#[97, 115, 107, 32, 48, 10, 97, 115, 107, 32, 55, 10, 109, 97, 110, 121, 10, 114, 117, 108, 101, 32, 97, 32, 51, 32, 53, 10, 114, 117, 108, 101, 32, 97, 32, 50, 32, 52, 10, 114, 117, 108, 101, 32, 97, 32, 51, 32, 53, 10, 111, 102, 32, 97, 98, 99, 10, 111, 102, 32, 98, 10, 116, 104, 32, 51, 54, 48, 50, 56, 55, 57, 55, 48, 49, 56, 57, 54, 51, 57, 54, 56, 10, 112, 97, 114, 116, 32, 49, 32, 52, 10, 99, 111, 117, 110, 116, 32, 53, 32, 51, 54, 48, 50, 56, 55, 57, 55, 48, 49, 56, 57, 54, 51, 57, 54, 56, 10, 109, 97, 114, 107, 32, 120, 61, 49, 44, 114, 118, 61, 48, 48, 48, 48, 48, 48, 48, 48, 48, 48, 48, 48, 48, 49, 44, 116, 104, 61, 56, 10]⟩ : ByteArray).size = T.length + 150 := by rw [tx_size]; rfl
      go_wp2_with fail
      clear EIN z1 hzT hz HI
      refine (CR.out _ hbr).mono ?_
      rintro e w2 ⟨rfl, b2⟩
      have k2 := below_on hbr b2
      clear hbr b2 CR HD
      go_wp2_with fail
      go_loopw [6, 45] (fun vs vi wr => ∃ (j : Nat) (c : List UInt8), j ≤ n ∧ vi = .int .i64 j ∧ vs = .string (tx c) ∧ Hid (stepsP G (3 * j) = some c) ∧ Below w.heap.size w wr) (fun _ vi _ => n - (intOf vi).toNat)
      case atStart => exact ⟨0, G, Nat.zero_le _, rfl, rfl, hide rfl, k2⟩
      case round =>
        obtain ⟨j, c, hj, rfl, rfl, HC, hbr⟩ := hrel
        by_cases hlt3 : j < n
        · go_wp2_with fail
          go_loopw [6, 47] (fun vs vi wr => ∃ (q : Nat) (c : List UInt8), q ≤ 3 ∧ vi = .int .i64 q ∧ vs = .string (tx c) ∧ Hid (stepsP G (3 * j + q) = some c) ∧ Below w.heap.size w wr) (fun _ vi _ => 3 - (intOf vi).toNat)
          case atStart => exact ⟨0, c, by omega, rfl, rfl, HC, hbr⟩
          case round =>
            obtain ⟨q, d, hq, rfl, rfl, HE, hbr2⟩ := hrel
            by_cases hq3 : q < 3
            · obtain ⟨c', hc', hok, hpre, hnx⟩ := steps_at HS.out (k := 3 * j + q) (by omega)
              obtain rfl : c' = d := by rw [HE.out] at hc'; injection hc' with h; exact h.symm
              have hcl := Nat.le_trans (steps_le hc') HG.out
              have CC := hide (cutD_any (HL.out.below (hbr2.mono hb)) (x := c') hcl)
              have CP := hide (preD_any (cutB 10 c'))
              rw [hok] at CC
              rw [hpre] at CP
              have HN := hide hnx
              clear hc' hok hpre hnx hcl
              generalize cutB 10 c' = B at CC CP
              generalize cutA 10 c' = A at CC HN
              go_wp2_with fail
              refine CC.out.mono ?_
              rintro e w5 ⟨rfl, q5, rfl⟩
              go_wp2_with fail
              refine (CP.out _).mono ?_
              rintro e w6 ⟨rfl, rfl⟩
              go_wp2_with fail
              go_roundw
              case rel => exact ⟨q + 1, A, by omega, by go_num, rfl, HN, below_drewN hbr2 q5⟩
              case measure => simp [intOf]; omega
            · obtain rfl : q = 3 := by omega
              go_wp2_with fail
              go_roundw
              case rel => exact ⟨j + 1, d, by omega, by go_num, rfl, HE, hbr2⟩
              case measure => simp [intOf]; omega
        · obtain rfl : n = j := by omega
          obtain rfl : wantAll n = c := by have h := HS.out; rw [HC.out] at h; injection h with h; exact h.symm
          clear HC HS HG
          have CL := hide (fun w => rdec_is (m := (n + 1) / 2) (by omega) w)
          have CN := hide (fun w => rdec_is (m := n) (by omega) w)
          have DLs := dec_size (((n + 1) / 2 : Nat) : Int)
          have DNs := dec_size (n : Int)
          have DMs := dec_size (manyV n : Int)
          have EW0 : wantAll n = [111, 107, 32] ++ dec (((n + 1) / 2 : Nat) : Int) ++ [32] ++ dec (((n + 1) / 2 : Nat) : Int) ++ [10, 111, 107, 32, 48, 32, 48, 10] ++ ([111, 107, 32] ++ dec (manyV n : Int) ++ [10]) ++ [111, 107, 10, 101, 114, 114, 111, 114, 32, 56, 10, 111, 107, 10, 111, 107, 32, 51, 10, 101, 114, 114, 111, 114, 32, 52, 10, 111, 107, 32, 56, 10, 111, 107, 32, 53, 52, 48, 52, 51, 49, 57, 53, 53, 50, 56, 52, 52, 53, 57, 53, 50, 10, 111, 107, 32, 49, 48, 10, 111, 107, 32, 116, 104, 61, 56, 44, 114, 118, 61, 48, 48, 48, 48, 48, 48, 48, 48, 48, 48, 48, 48, 48, 49, 44, 120, 61, 49, 10] := rfl
          have HM := hide (fun (h3 : ¬ 3 ≤ n) => (congrArg (fun m : Nat => dec (m : Int)) (show manyV n = n from if_neg h3)))
          have CM := hide (fun (h : manyV n < 9223372036854775808) w => rdec_is (m := manyV n) h w)
          generalize dec (((n + 1) / 2 : Nat) : Int) = DL at CL EW0 DLs
          generalize dec (n : Int) = DN at CN DNs HM
          generalize dec (manyV n : Int) = DM at EW0 DMs HM CM
          have Z1 := tx_size DL
          have Z2 := tx_size DN
          have Z3 := tx_size DM
          have y1 : ((⟨#[111, 107, 32]⟩ : ByteArray) ++ tx DN).size = 3 + DN.length := by rw [ByteArray.size_append, tx_size]; rfl
          have y2 : ((⟨#[111, 107, 32]⟩ : ByteArray) ++ tx DM).size = 3 + DM.length := by rw [ByteArray.size_append, tx_size]; rfl
          obtain ⟨M, hM⟩ : ∃ M, [111, 107, 32] ++ DM ++ [10] = M := ⟨_, rfl⟩
          have e2 : (⟨#[111, 107, 32]⟩ : ByteArray) ++ tx DM ++ (⟨#[10]⟩ : ByteArray) = tx M := by rw [← hM, ← tx_app, ← tx_app]; rfl
          rw [hM] at EW0
          have Ml : M.length ≤ 30 := by rw [← hM]; simp; omega
          have Z4 := tx_size M
          have x1 : ((⟨#[111, 107, 32]⟩ : ByteArray) ++ tx DL).size = 3 + DL.length := by rw [ByteArray.size_append, tx_size]; rfl
          have x2 : ((⟨#[111, 107, 32]⟩ : ByteArray) ++ tx DL ++ (⟨#[32]⟩ : ByteArray)).size = 4 + DL.length := by rw [ByteArray.size_append, x1]; simp +arith [ByteArray.size]
          have x3 : ((⟨#[111, 107, 32]⟩ : ByteArray) ++ tx DL ++ (⟨#[32]⟩ : ByteArray) ++ tx DL).size = 4 + DL.length + DL.length := by rw [ByteArray.size_append, x2, tx_size]
          have x4 : ((⟨#[111, 107, 32]⟩ : ByteArray) ++ tx DL ++ (⟨#[32]⟩ : ByteArray) ++ tx DL ++ (⟨#[10, 111, 107, 32, 48, 32, 48, 10]⟩ : ByteArray)).size = 4 + DL.length + DL.length + 8 := by rw [ByteArray.size_append, x3]; rfl
          have x5 : ((⟨#[111, 107, 32]⟩ : ByteArray) ++ tx DL ++ (⟨#[32]⟩ : ByteArray) ++ tx DL ++ (⟨#[10, 111, 107, 32, 48, 32, 48, 10]⟩ : ByteArray) ++ tx M).size = 4 + DL.length + DL.length + 8 + M.length := by rw [ByteArray.size_append, x4, tx_size]
          have EW : (⟨#[111, 107, 32]⟩ : ByteArray) ++ tx DL ++ (⟨#[32]⟩ : ByteArray) ++ tx DL ++ (⟨#[10, 111, 107, 32, 48, 32, 48, 10]⟩ : ByteArray) ++ tx M ++ (⟨#[111, 107, 10, 101, 114, 114, 111, 114, 32, 56, 10, 111, 107, 10, 111, 107, 32, 51, 10, 101, 114, 114, 111, 114, 32, 52, 10, 111, 107, 32, 56, 10, 111, 107, 32, 53, 52, 48, 52, 51, 49, 57, 53, 53, 50, 56, 52, 52, 53, 57, 53, 50, 10, 111, 107, 32, 49, 48, 10, 111, 107, 32, 116, 104, 61, 56, 44, 114, 118, 61, 48, 48, 48, 48, 48, 48, 48, 48, 48, 48, 48, 48, 48, 49, 44, 120, 61, 49, 10]⟩ : ByteArray) = tx (wantAll n) := by rw [EW0, ← tx_app, ← tx_app, ← tx_app, ← tx_app, ← tx_app, ← tx_app]; rfl
          have TS := tx_same (wantAll n)
          generalize wantAll n = W at EW TS ⊢
          clear EW0 hM
          by_cases h3 : 3 ≤ n
          · have q3 : (3 : Int) ≤ (n : Int) := by omega
            have M0 : manyV n = 2 * (72057594037927936 / (103 - n)) + 2 * (72057594037927936 % (103 - n)) / (103 - n) := if_pos h3
            rw [M0] at CM
            have nN : IntKind.i64.wrap (103 - (n : Int)) = ((103 - n : Nat) : Int) := by rw [IntWalk.i64_in _ (by omega)]; omega
            obtain ⟨N, hN⟩ : ∃ N, 103 - n = N := ⟨_, rfl⟩
            rw [hN] at CM nN
            have hNl : 83 ≤ N ∧ N ≤ 100 := by omega
            obtain ⟨Q, hQ⟩ : ∃ Q, 72057594037927936 / N = Q := ⟨_, rfl⟩
            obtain ⟨R, hR⟩ : ∃ R, 72057594037927936 % N = R := ⟨_, rfl⟩
            obtain ⟨S, hS⟩ : ∃ S, 2 * R / N = S := ⟨_, rfl⟩
            rw [hQ, hR, hS] at CM
            have hQl : Q ≤ 72057594037927936 := by rw [← hQ]; exact Nat.div_le_self _ _
            have hRl : R < N := by rw [← hR]; exact Nat.mod_lt _ (by omega)
            have hSl : S ≤ 2 * R := by rw [← hS]; exact Nat.div_le_self _ _
            have t2 : (72057594037927936 : Int).tdiv (N : Int) = (Q : Int) := by rw [← hQ]; rfl
            have t3 : (72057594037927936 : Int).tmod (N : Int) = (R : Int) := by rw [← hR]; rfl
            have t4 : (2 * (R : Int)).tdiv (N : Int) = (S : Int) := by rw [← hS]; rfl
            have v2 : IntKind.i64.wrap (Q : Int) = (Q : Int) := IntWalk.i64_in _ (by omega)
            have v3 : IntKind.i64.wrap (R : Int) = (R : Int) := IntWalk.i64_in _ (by omega)
            have v4 : IntKind.i64.wrap (S : Int) = (S : Int) := IntWalk.i64_in _ (by omega)
            have v5 : IntKind.i64.wrap (2 * (Q : Int)) = 2 * (Q : Int) := IntWalk.i64_in _ (by omega)
            have v6 : IntKind.i64.wrap (2 * (R : Int)) = 2 * (R : Int) := IntWalk.i64_in _ (by omega)
            have v7 : IntKind.i64.wrap (2 * (Q : Int) + (S : Int)) = ((2 * Q + S : Nat) : Int) := by rw [IntWalk.i64_in _ (by omega)]; omega
            have v8 : ¬ (N : Int) = 0 := by omega
            have CMq := hide (CM.out (by omega))
            clear CM hQ hR hS hN M0
            go_wp2_with fail
            refine (CN.out _).mono ?_
            rintro e w6 ⟨rfl, rfl⟩
            go_wp2_with fail
            go_quiet ((go_at_call 11; exact Calls.quiet_of_same (CMq.out _)))
            go_wp2_with fail
            refine (CL.out _).mono ?_
            rintro e w7 ⟨rfl, rfl⟩
            go_wp2_with fail
            refine (CL.out _).mono ?_
            rintro e w8 ⟨rfl, rfl⟩
            go_wp2_with fail
            refine (begun_ok _).mono ?_
            rintro e w7 ⟨rfl, b7⟩
            have k7 := below_on (below_drewN hbr nq) b7
            go_wp2_with fail
            go_ret
            exact ⟨rfl, k7⟩
          · have q3 : ¬ (3 : Int) ≤ (n : Int) := by omega
            obtain rfl : DM = DN := HM.out h3
            clear HM CM
            go_wp2_with fail
            refine (CN.out _).mono ?_
            rintro e w6 ⟨rfl, rfl⟩
            go_wp2_with fail
            refine (CL.out _).mono ?_
            rintro e w6 ⟨rfl, rfl⟩
            go_wp2_with fail
            refine (CL.out _).mono ?_
            rintro e w6 ⟨rfl, rfl⟩
            go_wp2_with fail
            refine (begun_ok _).mono ?_
            rintro e w7 ⟨rfl, b7⟩
            go_wp2_with fail
            go_ret
            exact ⟨rfl, below_on hbr b7⟩
end Go.Proofs.YtjpbjghdplbdcaaGreatDoor
end
