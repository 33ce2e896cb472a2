/- Proves the parts of the claim that its last text joins: Run2, RDec, DigitP, FactT, Del. Conditions: those that each theorem names. -/
import Derived.Test.YtjpbjghdplbdcaaGreatDoorM44
import Derived.Test.YtjpbjghdplbdcaaGreatDoorM04
import Derived.Test.YtjpbjghdplbdcaaGreatDoorM01
import Derived.Test.YtjpbjghdplbdcaaGreatDoorProg
import Derived.Test.YtjpbjghdplbdcaaGreatDoorM02
import Derived.Test.YtjpbjghdplbdcaaGreatDoorM05
import Derived.RegionTactic
import Derived.BigRegion
import Derived.Shelf.SlGeneric
import Derived.Shelf.SlicesG.Delete
import Derived.Ground.SlgnProg
import Derived.WalkKit
section
namespace Go.Proofs.YtjpbjghdplbdcaaGreatDoor
open Go.RowKit Go.Shelf
set_option maxRecDepth 100000 in
set_option maxHeartbeats 3200000 in
theorem run_any {b : Nat} {w : World} {s : List UInt8} (hL : LibW b w) (hb : b ≤ w.heap.size) (hs : s.length ≤ 65536) (hn : (linesOf s).length ≤ 200) (hk : ∀ l ∈ linesOf s, Walked l) (hlast : (pieces 10 s)[(pieces 10 s).length - 1]? = some []) :
    Calls Tryz.prog 5 #[.string (tx s)] w fun e w' => e = .returned (.string (tx (runP s))) ∧ Below w.heap.size w w' := by
  have CS := hide (split_at hL 10 (l := s) (by omega))
  have HL := hide hL
  go_enter Tryz.func5, Tryz.ntmps5
  go_wp2_with fail
  refine CS.out.mono ?_
  rintro e w1 ⟨rfl, rfl⟩
  have bP := Blk.new w 9 (wds (pieces 10 s)).toArray
  have bb1 := below_alloc (Below.refl w.heap.size w) (.cells (wds (pieces 10 s)).toArray 9)
  have hz1 : (w.alloc (.cells (wds (pieces 10 s)).toArray 9)).heap.size = w.heap.size + 1 := by simp
  generalize w.alloc (.cells (wds (pieces 10 s)).toArray 9) = w1 at bP bb1 hz1 ⊢
  obtain ⟨ps, hps⟩ : ∃ ps, pieces 10 s = ps := ⟨_, rfl⟩
  have hpos : 0 < ps.length := by
    rw [← hps]
    cases h : pieces 10 s with
    | nil => exact absurd h (pieces_ne _ _)
    | cons _ _ => simp
  rw [hps] at bP ⊢
  rw [hps] at hlast
  have hx := hlast
  have HLN := hide (linesOf_cut hps hx)
  have hln : (ps.length - 1 : Nat) ≤ 200 := by rw [HLN.out] at hn; simpa using hn
  have f0 := bP.at_ (i := ps.length - 1) (u := .string (tx [])) (by simpa using wds_at hx)
  have hN : ps.length ≤ 65537 := by rw [← hps]; have := pieces_many 10 s; omega
  have ez : IntKind.i64.wrap ((ps.length : Int) - 1) = ((ps.length - 1 : Nat) : Int) := by rw [IntWalk.i64_in _ (by omega)]; omega
  have t4 : (tx []).toList.isEmpty = true := by simp [tx]
  have t1 : ¬ 65536 < ((tx s).size : Int) := by rw [tx_size]; omega
  have t2 : ¬ 200 < ((ps.length - 1 : Nat) : Int) := by omega
  have t3 : ¬ 65536 < (tx s).size := by rw [tx_size]; omega
  have q1 : 0 ≤ ((ps.length - 1 : Nat) : Int) := by omega
  have q2 : ((ps.length - 1 : Nat) : Int) < (ps.length : Int) := by omega
  have HK := hide (fun l (hm : l ∈ ps.dropLast) => hk l (by rw [HLN.out]; exact hm))
  have HPS := hide (fun y (hy : y ∈ pieces 10 s) => Nat.le_trans (pieces_size 10 s y hy) hs)
  rw [hps] at HPS
  have HEND := hide (show runP s = (ps.dropLast.foldl lineS (newD, [])).2 by unfold runP; rw [if_neg (by omega), HLN.out])
  clear hk hs hn hps hlast hx
  go_wp2_with fail
  have R0 := RunAt.start bP bb1 hz1
  generalize World.alloc (World.alloc w1 _) _ = w2 at R0 ⊢
  clear f0 bP bb1 hz1
  go_loopw [41] (fun vi wr => ∃ (i : Nat) (st : DSt × List UInt8), i ≤ ps.length - 1 ∧ vi = .int .i64 i ∧ Hid ((ps.dropLast.take i).foldl lineS (newD, []) = st) ∧ st.2.length ≤ 5000000000 * i ∧ RunAt w ps st wr) (fun vi _ => ps.length - (intOf vi).toNat)
  case atStart => exact ⟨0, (newD, []), Nat.zero_le _, rfl, hide rfl, by simp, R0⟩
  case round =>
    obtain ⟨i, st, hi, rfl, HF, hlen, R⟩ := hrel
    by_cases hlt : i < ps.length - 1
    · obtain ⟨l, hx⟩ : ∃ l, ps[i]? = some l := ⟨ps[i]'(by omega), List.getElem?_eq_getElem (by omega)⟩
      have hcell := R.blk.at_ (i := i) (u := .string (tx l)) (by simpa using wds_at hx)
      have hdl : ps.dropLast[i]? = some l := by rw [List.getElem?_dropLast, if_pos hlt]; exact hx
      have hl65 : l.length ≤ 65536 := HPS.out l (List.mem_of_getElem? hx)
      have HN := hide (fold_next hdl (newD, []))
      rw [HF.out] at HN
      have HW := hide (HK.out l (List.mem_of_getElem? hdl))
      have CS2 := hide (split_at (HL.out.below (R.below.mono hb)) 32 (l := l) (by omega))
      have qi1 : 0 ≤ (i : Int) := by omega
      have qi2 : (i : Int) < ((ps.length - 1 : Nat) : Int) := by omega
      clear hx hdl
      go_wp2_with fail
      refine CS2.out.mono ?_
      rintro e w3 ⟨rfl, rfl⟩
      have bQ := Blk.new wr 9 (wds (pieces 32 l)).toArray
      have R3 := R.on (below_alloc (Below.refl _ wr) (.cells (wds (pieces 32 l)).toArray 9))
      have hz3 : (wr.alloc (.cells (wds (pieces 32 l)).toArray 9)).heap.size = wr.heap.size + 1 := by simp
      generalize wr.alloc (.cells (wds (pieces 32 l)).toArray 9) = w3 at bQ R3 hz3 ⊢
      obtain ⟨a3, ha3⟩ : ∃ a3, wr.heap.size = a3 := ⟨_, rfl⟩
      rw [ha3] at bQ hz3 ⊢
      have hqn := pieces_many 32 l
      have HQ := hide (show (pieces 32 l).filter (fun x => !x.isEmpty) = wordsOf l from rfl)
      obtain ⟨qs, hqs⟩ : ∃ qs, pieces 32 l = qs := ⟨_, rfl⟩
      rw [hqs] at bQ hqn HQ ⊢
      clear hqs hcell qi1 qi2
      have hR3 := R3.below.size
      go_wp2_with fail
      go_loopw [9, 48] (fun va vj wr => ∃ (j : Nat) (A' : Option Addr) (n' c' : Nat), j ≤ qs.length ∧ n' ≤ j ∧ vj = .int .i64 j ∧ va = .slice A' n' c' ∧ Own wr w3.heap.size 9 1 A' n' c' (wds ((qs.take j).filter (fun x => !x.isEmpty))) ∧ Below w3.heap.size w3 wr) (fun _ vj _ => qs.length - (intOf vj).toNat)
      case atStart => exact ⟨0, none, 0, 0, Nat.zero_le _, Nat.zero_le _, rfl, rfl, Own.nil _ _ _ _, by repeat' (first | assumption | with_reducible exact Below.refl _ _ | with_reducible apply Below.drew | with_reducible apply below_drewN | with_reducible apply below_alloc | with_reducible refine below_set ?_ ?_ _ | (simp only [World.size_alloc, World.heap_drewN]; omega) | (simp; omega))⟩
      case round =>
        obtain ⟨j, A', n', c', hj, hn', rfl, rfl, own, hbx⟩ := hrel
        by_cases hlt2 : j < qs.length
        · obtain ⟨y, hy⟩ : ∃ y, qs[j]? = some y := ⟨qs[j]'(by omega), List.getElem?_eq_getElem (by omega)⟩
          have hcy : wr.cell? ⟨a3, j, none⟩ = some (.string (tx y)) := (bQ.below hbx bQ.lt).at_ (i := j) (u := .string (tx y)) (by simp [wds, hy])
          have HNX := hide (words_next hy)
          clear hy
          by_cases hye : y = []
          · subst hye
            have t1 : (tx []).toList.isEmpty = true := by simp [tx]
            rw [if_pos rfl, List.append_nil] at HNX
            go_wp2_with fail
            go_roundw
            case rel => exact ⟨j + 1, A', n', c', by omega, by omega, by go_num, rfl, by rw [HNX.out]; exact own, hbx⟩
            case measure => simp [intOf]; omega
          · rw [if_neg hye] at HNX
            have t1 : (tx y).toList.isEmpty = false := by
              cases y with
              | nil => exact absurd rfl hye
              | cons _ _ => simp [tx]
            have own2 := own.alloc (.cells #[.string (tx y)] 9)
            have hsl := Sl.new wr 9 1 1 (wds [y]) (by simp [maxLen]) rfl
            have hb2 : Below w3.heap.size w3 (wr.alloc (.cells #[.string (tx y)] 9)) := below_alloc hbx _
            go_wp2_with (at_builtin; refine wpList_append_sl T_str rfl _ _ rfl (by rfl) (by rfl) own2 hsl (wds_one _) (by simp only [maxLen]; omega) (by omega) (by simp only [World.size_alloc]; have := hbx.size; omega) ?_; intro A5 c5 w5 ap)
            have own5 := ap.own
            rw [← List.map_append, ← HNX.out] at own5
            have hb5 := hb2.trans ap.below
            go_roundw
            case rel => exact ⟨j + 1, A5, n' + 1, c5, by omega, by omega, by go_num, rfl, own5, hb5⟩
            case measure => simp [intOf]; omega
        · obtain rfl : j = qs.length := by omega
          rw [List.take_length, HQ.out] at own
          have Rx := R3.on hbx
          have hbw : Below w3.heap.size w3 wr := hbx
          have hnl := own.len
          clear hbx
          cases hw : wordsOf l with
          | nil =>
            rw [hw] at hnl
            obtain rfl : n' = 0 := by simpa using hnl.symm
            rw [lineS_nil hw] at HN
            clear own hw HW hnl
            go_wp2_with fail
            go_roundw
            case rel => exact ⟨i + 1, st, by omega, by go_num, HN, by omega, Rx⟩
            case measure => simp [intOf]; omega
          | cons x0 t =>
            rw [hw] at own hnl
            have hn1 : 0 < n' := by simp at hnl; omega
            obtain ⟨ag, rfl, hag, hag2⟩ := own.addr hn1
            have hc0 : wr.cell? ⟨ag, 0, none⟩ = some (.string (tx x0)) := own.cell (j := 0) rfl
            have qn0 : ¬ (n' : Int) = 0 := by omega
            have qn1 : 0 < (n' : Int) := by omega
            by_cases h35 : x0 = [35]
            · subst h35
              rw [lineS_mark hw] at HN
              have t1 := mark_yes
              clear own hw HW hnl
              go_wp2_with fail
              go_roundw
              case rel => exact ⟨i + 1, st, by omega, by go_num, HN, by omega, Rx⟩
              case measure => simp [intOf]; omega
            · have t1 := mark_no h35
              have hkn : x0 ∈ knownW := by
                have := HW.out
                unfold Walked at this
                rw [hw] at this
                exact this.resolve_left h35
              rw [lineS_some hw h35] at HN
              have hnw := wordsOf_many hl65
              have hsw := wordsOf_short hl65
              rw [hw] at hnw hsw
              have hbr := ansP_brief (s := st.1) (t := t) hkn
              have hok := ansP_ok (t := t) Rx.ok hkn
              have hll : (x0 :: t).length = n' := by simpa using hnl
              have CA := hide (answer_is (HL.out.below (Rx.below.mono hb)) (by omega) Rx.desk Rx.ok own.sl (by omega) hsw hkn)
              generalize ansP st.1 (x0 :: t).length (lineR (x0 :: t)) = q at HN hbr hok CA
              unfold Brief at hbr
              clear hw HW hnl hsw hnw hll hkn
              go_wp2_with fail
              refine CA.out.mono ?_
              intro e w4 ha
              have R4 := Rx.answered ha hok
              obtain ⟨rfl, _, _⟩ := ha
              have CB := hide (bld_str (l := st.2) (s := q.2) R4.bld (by omega) R4.below.size)
              go_wp2_with fail
              refine CB.out.mono ?_
              rintro e w5 ⟨rfl, hB5, hb5, hk5⟩
              have R5 := R4.wrote hB5 hb5 hk5
              have CC := hide (bld_line (l := st.2 ++ q.2) R5.bld (by rw [List.length_append]; omega) R5.below.size)
              go_wp2_with fail
              refine CC.out.mono ?_
              rintro e w6 ⟨rfl, hB6, hb6, hk6⟩
              have R6 := R5.wrote hB6 hb6 hk6
              go_wp2_with fail
              go_roundw
              case rel => exact ⟨i + 1, (q.1, st.2 ++ q.2 ++ [10]), by omega, by go_num, HN, by simp; omega, R6⟩
              case measure => simp [intOf]; omega
    · obtain rfl : i = ps.length - 1 := by omega
      have HT := hide (show ps.dropLast.take (ps.length - 1) = ps.dropLast from List.take_of_length_le (by simp))
      have CE := hide (bld_all R.bld R.below.size)
      go_wp2_with fail
      refine CE.out.mono ?_
      rintro e w3 ⟨rfl, b3⟩
      go_wp2_with fail
      go_ret
      refine ⟨?_, R.below.trans b3⟩
      have := HF.out
      rw [HT.out] at this
      rw [HEND.out, this]
      rfl
end Go.Proofs.YtjpbjghdplbdcaaGreatDoor
end
section
namespace Go.Proofs.YtjpbjghdplbdcaaGreatDoor
open Go.RowKit
theorem digit_cut {m : Nat} (h : m < 10) : (⟨#[48, 49, 50, 51, 52, 53, 54, 55, 56, 57]⟩ : ByteArray).extract m (m + 1) = tx [UInt8.ofNat (48 + m)] := by
  have : ∀ k : Fin 10, (⟨#[48, 49, 50, 51, 52, 53, 54, 55, 56, 57]⟩ : ByteArray).extract k.val (k.val + 1) = tx [UInt8.ofNat (48 + k.val)] := by decide
  exact this ⟨m, h⟩
theorem decF_one {m : Nat} (h : m < 10) : ∀ f, decF f m = [UInt8.ofNat (48 + m)]
  | 0 => by rw [decF, Nat.mod_eq_of_lt h]
  | f + 1 => by rw [decF, if_pos h]
theorem rdec_one {m : Nat} (h : m < 10) (w : World) : Calls Tryz.prog 11 #[.int .i64 m] w fun e w' => e = .returned (.string (tx [UInt8.ofNat (48 + m)])) ∧ w' = w := by
  have HC := hide (digit_cut h)
  go_enter Tryz.func11, Tryz.ntmps11
  go_wp2_with fail
  go_ret
  exact ⟨by rw [← HC.out]; rfl, rfl⟩
set_option maxRecDepth 20000 in
theorem rdec_any : ∀ (f m : Nat), m < 10 ^ (f + 1) → m < 9223372036854775808 → f ≤ 100 → ∀ w : World, Calls Tryz.prog 11 #[.int .i64 m] w fun e w' => e = .returned (.string (tx (decF f m))) ∧ w' = w
  | 0, m, h, _, _, w => by
    have h10 : m < 10 := by simpa using h
    rw [decF_one h10]
    exact rdec_one h10 w
  | f + 1, m, h, hm, hf, w => by
    by_cases h10 : m < 10
    · rw [decF_one h10]
      exact rdec_one h10 w
    · have C1 := hide (rdec_any f (m / 10) (by rw [Nat.pow_succ] at h; omega) (by omega) (by omega))
      have C2 := hide (rdec_one (m := m % 10) (Nat.mod_lt _ (by decide)))
      have HD := hide (show decF (f + 1) m = decF f (m / 10) ++ [UInt8.ofNat (48 + m % 10)] by rw [decF, if_neg h10])
      have hs := decF_size f (m / 10)
      generalize UInt8.ofNat (48 + m % 10) = dg at C2 HD
      have hz2 : (tx [dg]).size = 1 := tx_size [dg]
      generalize decF f (m / 10) = D at C1 HD hs
      generalize decF (f + 1) m = E at HD ⊢
      have hz1 := tx_size D
      clear h
      go_enter Tryz.func11, Tryz.ntmps11
      go_wp2_with fail
      refine (C1.out w).mono ?_
      rintro e w' ⟨rfl, rfl⟩
      go_wp2_with fail
      refine (C2.out w').mono ?_
      rintro e w' ⟨rfl, rfl⟩
      go_wp2_with fail
      go_ret
      exact ⟨by rw [HD.out, ← tx_app]; rfl, rfl⟩
theorem rdec_is {m : Nat} (h : m < 9223372036854775808) (w : World) : Calls Tryz.prog 11 #[.int .i64 m] w fun e w' => e = .returned (.string (tx (dec m))) ∧ w' = w := by
  have k := rdec_any 18 m (Nat.lt_of_lt_of_le h (by decide)) h (by decide) w
  rw [show dec (m : Int) = decF 18 m by
    unfold dec
    rw [if_neg (by omega), Int.toNat_natCast, decF_is _ _ (Nat.lt_of_lt_of_le h (by decide)), decF_is _ _ (Nat.lt_of_lt_of_le h (by decide))]]
  exact k
end Go.Proofs.YtjpbjghdplbdcaaGreatDoor
end
section
namespace Go.Proofs.YtjpbjghdplbdcaaGreatDoor
def fac : Nat → Nat
  | 0 => 1
  | n + 1 => (n + 1) * fac n
theorem fac_pos : ∀ n, 0 < fac n
  | 0 => by decide
  | n + 1 => Nat.mul_pos (by omega) (fac_pos n)
theorem fac_mono : ∀ {n m : Nat}, n ≤ m → fac n ≤ fac m
  | n, 0, h => by rw [show n = 0 by omega]; exact Nat.le_refl _
  | n, m + 1, h => by
    by_cases e : n = m + 1
    · subst e; exact Nat.le_refl _
    · have h1 := fac_mono (n := n) (m := m) (by omega)
      have h2 : 1 * fac m ≤ (m + 1) * fac m := Nat.mul_le_mul_right _ (by omega)
      rw [fac]; omega
theorem fac_12 {n : Nat} (h : n ≤ 12) : fac n ≤ 479001600 := Nat.le_trans (fac_mono h) (by decide)
def unr : List Nat → Nat → Nat → List Nat
  | _, 0, _ => []
  | left, m + 1, r => left.getD (r / fac m) 0 :: unr (left.eraseIdx (r / fac m)) m (r % fac m)
theorem first_lt {m r : Nat} (h : r < fac (m + 1)) : r / fac m < m + 1 := by
  rw [Nat.div_lt_iff_lt_mul (fac_pos m)]; exact h
def casts (l : List Nat) : List Int := l.map fun (x : Nat) => (x : Int)
theorem casts_at {l : List Nat} {k : Nat} {x : Nat} (h : l[k]? = some x) : (casts l)[k]? = some (x : Int) := by simp [casts, h]
theorem casts_append (a b : List Nat) : casts (a ++ b) = casts a ++ casts b := by simp [casts]
theorem casts_len (l : List Nat) : (casts l).length = l.length := by simp [casts]
end Go.Proofs.YtjpbjghdplbdcaaGreatDoor
end
section
namespace Go.Proofs.YtjpbjghdplbdcaaGreatDoor
open Go.RowKit
theorem fac_i {k : Nat} (h : k ≤ 12) : 1 ≤ (fac k : Int) ∧ (fac k : Int) ≤ 479001600 := by
  have h1 := fac_pos k
  have h2 := fac_12 h
  omega
set_option maxHeartbeats 800000 in
theorem fact_any (m : Nat) (hm : m ≤ 12) (w : World) : Calls Tryz.prog 76 #[.int .i64 m] w fun e w' => e = .returned (.int .i64 (fac m : Int)) ∧ w = w' := by
  go_enter Tryz.func76, Tryz.ntmps76
  go_wp2_with fail
  go_loop [3, 4] (fun o i => ∃ k : Nat, k ≤ 12 ∧ (k ≤ m ∨ k ≤ 1) ∧ i = .int .i64 ((k : Int) + 1) ∧ 1 ≤ k ∧ o = .int .i64 (fac k : Int)) (fun _ i => m + 1 - (intOf i).toNat)
  case atStart => exact ⟨1, by omega, .inr (by omega), rfl, by omega, rfl⟩
  case round =>
    obtain ⟨k, hk, hkm, rfl, hk1, rfl⟩ := hrel
    obtain ⟨f1, f2⟩ := fac_i hk
    by_cases hlt : k + 1 ≤ m
    · obtain ⟨g1, g2⟩ := fac_i (k := k + 1) (by omega)
      have HF := hide (show (fac (k + 1) : Int) = (fac k : Int) * ((k : Int) + 1) by rw [fac, Int.natCast_mul, Int.mul_comm]; rfl)
      have hb : 0 ≤ (fac k : Int) * ((k : Int) + 1) ∧ (fac k : Int) * ((k : Int) + 1) ≤ 479001600 := by rw [← HF.out]; omega
      obtain ⟨hb1, hb2⟩ := hb
      obtain ⟨o, ho⟩ : ∃ o, (fac k : Int) = o := ⟨_, rfl⟩
      rw [ho] at f1 f2 hb1 hb2 HF ⊢
      clear ho g1 g2
      go_wp2_with fail
      go_round
      case rel => exact ⟨k + 1, by omega, .inl hlt, by go_num, by omega, by rw [HF.out]⟩
      case measure => simp [intOf]; omega
    · have HE := hide (show fac k = fac m by
        rcases hkm with h | h
        · rw [show k = m by omega]
        · have : m = 0 ∨ m = 1 := by omega
          rcases this with rfl | rfl <;> rw [show k = 1 by omega] <;> rfl)
      go_wp2_with fail
      go_ret
      exact ⟨by rw [HE.out]; rfl, rfl⟩
end Go.Proofs.YtjpbjghdplbdcaaGreatDoor
end
section
namespace Go.Proofs.YtjpbjghdplbdcaaGreatDoor
open Go.RowKit Go.Sort Go.Shelf
def laysDel_ren : Go.Shelf.Ren := ⟨fun | 45 => 77 | n => n, fun | 22 => 43 | 23 => 3 | 3 => 3 | 4 => 4 | 0 => 0 | n => n, fun | n => n⟩
theorem laysDel : Go.Proofs.SlLaysN.n45 Tryz.prog laysDel_ren := {
  mixed := by kernel_rfl
  f45 := ⟨Tryz.f77.name, by decide, Tryz.func77.trans (congrArg some (by kernel_rfl))⟩
  t0 := Tryz.underlying0
  a0 := Tryz.isAgg0
  z0 := Tryz.sizeOf0
  v0 := Tryz.zeroValue0
  t3 := Tryz.underlying3
  a3 := Tryz.isAgg3
  z3 := Tryz.sizeOf3
  v3 := Tryz.zeroValue3
  t4 := Tryz.underlying4
  a4 := Tryz.isAgg4
  z4 := Tryz.sizeOf4
  v4 := Tryz.zeroValue4
  t22 := Tryz.underlying43
  a22 := Tryz.isAgg43
  z22 := Tryz.sizeOf43
  v22 := Tryz.zeroValue43
  t23 := Tryz.underlying3
  a23 := Tryz.isAgg3
  z23 := Tryz.sizeOf3
  v23 := Tryz.zeroValue3
  i23 := by kernel_rfl }
theorem putRow_heap (w : World) (g q : Nat) (d : Array Int) (k : Nat) : (putRow (Value.int .i64) (Sort.ahead w q) g 0 d).heap[k]? = if g = k then (w.heap[k]?).map (onCells (putCells (Value.int .i64) 0 d)) else w.heap[k]? := by
  simp [putRow, mapBlock, Array.getElem?_modify, heap_ahead]
section
variable {w : World} {base g n c q : Nat} {e : TypeId} {zs ds : List Int}
theorem Own.put (h : Own w base e 1 (some ⟨g, 0, none⟩) n c (ints zs)) (hl : ds.length = n) : Own (putRow (Value.int .i64) (Sort.ahead w q) g 0 ds.toArray) base e 1 (some ⟨g, 0, none⟩) n c (ints ds) := by
  refine ⟨by rw [ints_len, hl]; simp, ?_⟩
  rcases h.2 with ⟨hv, _⟩ | ⟨g', cap, cur, hv, hb, hh, h1, h2, h3, h4⟩
  · cases hv
  · injection hv with hv e2 e3
    injection hv with hv
    injection hv with hv
    subst hv
    refine .inr ⟨g, cap, putCells (Value.int .i64) 0 ds.toArray cur, by rw [e3], hb, ?_, h1, h2, by simp [putCells, h3], ?_⟩
    · rw [putRow_heap, if_pos rfl, hh]; rfl
    · apply List.ext_getElem?
      intro k
      rw [List.getElem?_take, ints_getElem?]
      by_cases hk : k < n * 1
      · rw [if_pos hk, Array.getElem?_toList]
        have hkc : k < cur.size := by rw [h3]; omega
        simp only [putCells, Array.getElem?_mapIdx, Array.getElem?_eq_getElem hkc, Option.map_some]
        rw [if_pos ⟨Nat.zero_le _, by simp [hl]; omega⟩]
        have hkd : k < ds.length := by omega
        rw [List.getElem?_eq_getElem hkd, Nat.sub_zero, getElem!_pos ds.toArray k (by simpa using hkd)]
        simp
      · rw [if_neg hk, List.getElem?_eq_none (by omega)]; rfl
theorem Own.put_far {base2 n2 c2 size2 : Nat} {e2 : TypeId} {A2 : Option Addr} {xs : List Value} {d : Array Int} (h : Own w base2 e2 size2 A2 n2 c2 xs) (hap : blockOf A2 ≠ some g) : Own (putRow (Value.int .i64) (Sort.ahead w q) g 0 d) base2 e2 size2 A2 n2 c2 xs := by
  refine ⟨h.1, ?_⟩
  rcases h.2 with hn | ⟨g', cap, cur, hv, hg, hh, r⟩
  · exact .inl hn
  · refine .inr ⟨g', cap, cur, hv, hg, ?_, r⟩
    injection hv with hv
    rw [putRow_heap, if_neg (fun e => hap (by rw [hv, e]; rfl))]
    exact hh
theorem below_put {w0 : World} {B : Nat} {d : Array Int} (h : Below B w0 w) (hg : B ≤ g) : Below B w0 (putRow (Value.int .i64) (Sort.ahead w q) g 0 d) :=
  ⟨h.os, h.tape, h.output, by rw [size_putRow]; exact h.size, fun k hk => by rw [putRow_heap, if_neg (by omega)]; exact h.block k hk⟩
theorem delete_own (h : Own w base 3 1 (some ⟨g, 0, none⟩) n c (ints zs)) {k : Nat} (hk : k < n) {e : Int} (he : e = (k : Int) + 1) :
    Calls Tryz.prog 77 #[.slice (some ⟨g, 0, none⟩) n c, .int .i64 k, .int .i64 e] w fun e w' => e = .returned (.slice (some ⟨g, 0, none⟩) (n - 1) c) ∧ ∃ q, w' = putRow (Value.int .i64) (Sort.ahead w q) g 0 (zs.eraseIdx k ++ [0]).toArray := by
  subst he
  have hlen := h.sl.ilen
  have hc := h.sl.cap
  have hm := h.sl.max
  have hH : Holds (Value.int .i64) w g 0 zs.toArray := by
    intro j hj
    have hj' : j < zs.length := by simpa using hj
    rw [Nat.zero_add]
    refine ⟨?_, h.free j⟩
    rw [getElem!_pos zs.toArray j hj]
    apply h.cell
    rw [ints_getElem?, List.getElem?_eq_getElem hj']
    simp
  have hcon := AnyG.slices_Delete_int laysDel g 0 c k (k + 1) zs w hH (by omega) (by simp only [maxLen] at hm; omega) (by omega) (by omega)
  rw [hlen, show n - (k + 1 - k) = n - 1 by omega, show k + 1 - k = 1 by omega, ← List.eraseIdx_eq_take_drop_succ] at hcon
  exact hcon
structure Deled (w w' : World) (base g n c : Nat) (zs : List Int) : Prop where
  own : Own w' base 3 1 (some ⟨g, 0, none⟩) n c (ints zs)
  far : ∀ (base2 : Nat) (e2 : TypeId) (size2 : Nat) (A2 : Option Addr) (n2 c2 : Nat) (xs : List Value), Own w base2 e2 size2 A2 n2 c2 xs → blockOf A2 ≠ some g → Own w' base2 e2 size2 A2 n2 c2 xs
  below : ∀ (B : Nat) (w0 : World), Below B w0 w → B ≤ g → Below B w0 w'
theorem delete_row (h : Own w base 3 1 (some ⟨g, 0, none⟩) n c (ints zs)) {k : Nat} (hk : k < n) {e : Int} (he : e = (k : Int) + 1) :
    Calls Tryz.prog 77 #[.slice (some ⟨g, 0, none⟩) n c, .int .i64 k, .int .i64 e] w fun e w' => e = .returned (.slice (some ⟨g, 0, none⟩) (n - 1) c) ∧ Deled w w' base g (n - 1) c (zs.eraseIdx k) := by
  refine (delete_own h hk he).mono ?_
  rintro e w' ⟨he, q, hw⟩
  have hlen := h.sl.ilen
  have hl1 : (zs.eraseIdx k).length = n - 1 := by rw [List.length_eraseIdx, if_pos (by omega)]; omega
  have o1 := h.put (q := q) (ds := zs.eraseIdx k ++ [0]) (by rw [List.length_append, hl1]; simp; omega)
  rw [ints_append] at o1
  rw [← hw] at o1
  have en : n = (n - 1) + 1 := by omega
  rw [en] at o1
  exact ⟨he, Own.init (v := .int .i64 0) o1 (by rw [ints_len, hl1]), fun base2 e2 size2 A2 n2 c2 xs h2 hap => by rw [hw]; exact h2.put_far hap, fun B w0 hb hg => by rw [hw]; exact below_put hb hg⟩
theorem map_erase {α β : Type} (f : α → β) (l : List α) (k : Nat) : (l.map f).eraseIdx k = (l.eraseIdx k).map f := by
  rw [List.eraseIdx_eq_take_drop_succ, List.eraseIdx_eq_take_drop_succ, List.map_append, List.map_take, List.map_drop]
end
end Go.Proofs.YtjpbjghdplbdcaaGreatDoor
end
