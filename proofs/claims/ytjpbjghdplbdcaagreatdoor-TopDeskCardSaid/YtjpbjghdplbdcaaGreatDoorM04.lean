/- Proves the parts of the claim that its last text joins: Own2, Dk3, Dk4, Dk6. Conditions: those that each theorem names. -/
import Derived.Test.YtjpbjghdplbdcaaGreatDoorM02
import Derived.Test.YtjpbjghdplbdcaaGreatDoorM03
import Derived.Laws.AppendOwn
section
namespace Go.Proofs.YtjpbjghdplbdcaaGreatDoor
open Go.RowKit
section
variable {w w' : World} {base base' size n c g : Nat} {e t : TypeId} {A A' : Option Addr} {xs : List Value} {cs : Array Value}
theorem Own.take (h : Own w base e size A n c xs) {m : Nat} (hm : m ≤ n) (hn : 0 < n) : Own w base e size A m c (xs.take (m * size)) := by
  refine ⟨by rw [List.length_take, h.len, Nat.min_eq_left (Nat.mul_le_mul_right _ hm)], ?_⟩
  rcases h.2 with ⟨hv, h0⟩ | ⟨g, cap, cur, hv, hb, hh, h1, h2, h3, h4⟩
  · omega
  · injection hv with e1 e2 e3
    subst e1; subst e3
    refine .inr ⟨g, c, cur, rfl, hb, hh, by omega, h2, h3, ?_⟩
    rw [← h4, List.take_take, Nat.min_eq_left (Nat.mul_le_mul_right _ hm)]
theorem Own.init {v : Value} (h : Own w base e 1 A (n + 1) c (xs ++ [v])) (hl : xs.length = n) : Own w base e 1 A n c xs := by
  have := h.take (m := n) (by omega) (by omega)
  rw [Nat.mul_one, show (xs ++ [v]).take n = xs from by rw [← hl, List.take_left]] at this
  exact this
theorem Own.cap (h : Own w base e size A n c xs) : n ≤ c ∧ c ≤ maxLen := ⟨h.sl.cap, h.sl.max⟩
def Apart (A A' : Option Addr) : Prop := ∀ g, blockOf A = some g → blockOf A' ≠ some g
theorem Apart.symm (h : Apart A A') : Apart A' A := fun g h1 h2 => h g h2 h1
theorem Apart.nil (A : Option Addr) : Apart none A := fun g h => by cases h
theorem Apart.nil' (A : Option Addr) : Apart A none := fun g _ h => by cases h
theorem Own.grown_apart {A2 A2' : Option Addr} {b2 size2 n2 c2 : Nat} {e2 : TypeId} {xs2 : List Value} (h : Own w base e size A n c xs) (ap : Apped w w' b2 e2 size2 A2 A2' n2 c2 xs2) (hap : Apart A2 A) : Own w' base e size A n c xs :=
  h.grown ap.grow fun g hA he => hap g he (by rw [hA]; rfl)
theorem Apped.apart {A2 A2' : Option Addr} {b2 size2 n2 c2 : Nat} {e2 : TypeId} {xs2 : List Value} (ap : Apped w w' b2 e2 size2 A2 A2' n2 c2 xs2) (h : Own w base e size A n c xs) (hap : Apart A2 A) : Apart A2' A := by
  intro g hg hA
  rcases ap.lies with hl | hl
  · exact hap g (by rw [← hl]; exact hg) hA
  · rw [hl] at hg
    injection hg with hg
    have := (h.blk hA).2
    omega
end
theorem Sl.lit {w : World} {g : Nat} {v : Value} {e : TypeId} (h : w.heap[g]? = some (.cells #[v] e (0, 0))) : Sl w (g + 1) 1 (some ⟨g, 0, none⟩) 1 1 [v] := by
  refine ⟨rfl, Nat.le_refl _, by simp [maxLen], (fun h => by cases h), fun _ => ⟨_, rfl, Nat.lt_succ_self _, fun j u hu => ?_⟩⟩
  rw [add_lit0, cell_of_row w g j _ e (0, 0) h]
  simpa using hu
theorem at_new (W : World) (o : Obj) : (W.alloc o).heap[W.heap.size]? = some o := heap_alloc_new W o
theorem at_new3 (W : World) (o o2 : Obj) : ((W.alloc o).alloc o2).heap[W.heap.size + 1]? = some o2 := by
  have := at_new (W.alloc o) o2
  rwa [World.size_alloc] at this
end Go.Proofs.YtjpbjghdplbdcaaGreatDoor
end
section
namespace Go.Proofs.YtjpbjghdplbdcaaGreatDoor
open Go.RowKit Go.Shelf
theorem gtrans {a b c : World} {r : Option Nat} (h1 : a.grownBy b r) (h2 : b.grownBy c r) : a.grownBy c r :=
  ⟨h2.os.trans h1.os, h2.tape.trans h1.tape, h2.output.trans h1.output, Nat.le_trans h1.size h2.size, fun k hk hr => (h2.block k (Nat.lt_of_lt_of_le hk h1.size) hr).trans (h1.block k hk hr)⟩
theorem gbelow {a b : World} (h : Below a.heap.size a b) (r : Option Nat) : a.grownBy b r := ⟨h.os, h.tape, h.output, h.size, fun k hk _ => h.block k hk⟩
theorem gset (w : World) (g j : Nat) (u : Value) : w.grownBy (w.setCell ⟨g, j, none⟩ u) (some g) :=
  ⟨rfl, rfl, rfl, by simp, fun k _ hr => Below.heap_setCell w ⟨g, j, none⟩ u k fun e => hr (by rw [e])⟩
theorem gbel {a b : World} {g : Nat} (h : a.grownBy b (some g)) (hg : g ≤ a.heap.size) : Below g a b := ⟨h.os, h.tape, h.output, h.size, fun k hk => h.block k (by omega) (fun e => by injection e with e; omega)⟩
theorem pieces_size (c : UInt8) : ∀ (l x : List UInt8), x ∈ pieces c l → x.length ≤ l.length
  | [], x, h => by simp [pieces] at h; subst h; exact Nat.le_refl _
  | b :: l, x, h => by
    unfold pieces at h
    split at h
    · rcases List.mem_cons.1 h with rfl | h
      · exact Nat.zero_le _
      · exact Nat.le_succ_of_le (pieces_size c l x h)
    · rcases List.mem_cons.1 h with rfl | h
      · have hne := pieces_ne c l
        obtain ⟨y, r, hy⟩ := List.exists_cons_of_ne_nil hne
        have := pieces_size c l y (by rw [hy]; exact List.mem_cons_self ..)
        rw [hy]
        simp
        exact this
      · have := pieces_size c l x (List.mem_of_mem_tail h)
        simp; omega
theorem pieces_many (c : UInt8) : ∀ l : List UInt8, (pieces c l).length ≤ l.length + 1
  | [] => by simp [pieces]
  | b :: l => by
    have ih := pieces_many c l
    unfold pieces
    split
    · simp; omega
    · simp; omega
theorem split_at {b : Nat} {w : World} (hL : LibW b w) (c : UInt8) {l : List UInt8} (hl : l.length ≤ 4000000) : Calls Tryz.prog 14 #[.string (tx l), .string (tx [c])] w fun e w' =>
    e = .returned (.slice (some ⟨w.heap.size, 0, none⟩) (pieces c l).length (pieces c l).length) ∧ w' = w.alloc (.cells (wds (pieces c l)).toArray 9) := by
  obtain ⟨m, hm⟩ := hL.mset
  have k := Any.strings_Split { laysSplitD with } laysSplitD.i9 (tx l) (tx [c]) m w (by rw [tx_size]; omega) hm (by rw [tx_size]; simp)
  have hd : (Lib.splitB (tx [c]) 0 (Lib.countB (tx l) (tx [c])) (tx l)).map (·.data.toList) = pieces c l := by
    rw [Lib.splitB_data, ← split_is]
    rfl
  have hl2 : Lib.countB (tx l) (tx [c]) + 1 = (pieces c l).length := by
    rw [← hd, List.length_map, Lib.splitB_all _ (by rw [tx_size]; simp) 0 _ _ rfl]
  have hp : Lib.splitB (tx [c]) 0 (Lib.countB (tx l) (tx [c])) (tx l) = (pieces c l).map tx := by
    rw [← hd, List.map_map]
    conv => lhs; rw [← List.map_id (Lib.splitB _ _ _ _)]
    rfl
  rw [hl2, hp, List.map_map] at k
  exact k
section
variable {b : Nat} {w : World} {g k : Nat} {xs : List (List UInt8)} {x : List UInt8}
theorem WordsAt.below {w' : World} (h : WordsAt w g xs k) (hb : Below w.heap.size w w') : WordsAt w' g xs k := by
  obtain ⟨A, n, c, hbk, hs, hn⟩ := h
  exact ⟨A, n, c, hbk.below hb hbk.lt, hs.below (hb.mono (Nat.le_of_lt hbk.lt)), hn⟩
theorem WordsAt.lt (h : WordsAt w g xs k) : g < w.heap.size := by obtain ⟨A, n, c, hbk, _⟩ := h; exact hbk.lt
set_option maxHeartbeats 1600000 in
theorem next_ok (h : WordsAt w g xs k) (hx : xs[k]? = some x) :
    Calls Tryz.prog 95 #[.pointer (some ⟨g, 0, none⟩)] w fun e w' => e = .returned (.string (tx x)) ∧ WordsAt w' g xs (k + 1) ∧ w.grownBy w' (some g) := by
  obtain ⟨A, n, c, hb, hs, hn⟩ := h
  have hl := hs.wlen
  have hk := (List.getElem?_eq_some_iff.1 hx).1
  rw [hl] at hk
  obtain ⟨ad, x2, rfl, hbk, hx2, hc⟩ := hs.tcell hk
  obtain rfl : x2 = x := by rw [hx] at hx2; injection hx2 with h; exact h.symm
  have f0 := hb.at_ (i := 0) (u := .slice (some ad) n c) rfl
  have f1 := hb.at_ (i := 1) (u := .int .i64 (k : Nat)) rfl
  have z1 := hb.free 1
  have t : ((k : Int) == (n : Int)) = false := by rw [beq_eq_false_iff_ne]; omega
  have ez : IntKind.i64.wrap ((k : Int) + 1) = ((k + 1 : Nat) : Int) := by rw [IntWalk.i64_in _ (by omega)]; omega
  have ey : IntKind.i64.wrap (((k + 1 : Nat) : Int) - 1) = (k : Int) := by rw [IntWalk.i64_in _ (by omega)]; omega
  have HX := hide hx
  have hgl := hb.lt
  clear hx hx2
  go_enter Tryz.func95, Tryz.ntmps95
  go_wp2_with fail
  go_quiet (fail)
  go_wp2_with fail
  have bS : Blk ((w.drewN nq).setCell ⟨g, 1, none⟩ (.int .i64 ((k : Int) + 1))) g 82 #[.slice (some ad) n c, .int .i64 ((k + 1 : Nat) : Int)] := by
    have t := (hb.below (below_drewN (Below.refl _ w) nq) hb.lt).set 1 (.int .i64 ((k : Int) + 1))
    simpa using t
  have kS : Below g w ((w.drewN nq).setCell ⟨g, 1, none⟩ (.int .i64 ((k : Int) + 1))) := (below_drewN (Below.refl g w) nq).setCell (Nat.le_refl _) _
  have gS : w.grownBy ((w.drewN nq).setCell ⟨g, 1, none⟩ (.int .i64 ((k : Int) + 1))) (some g) := gtrans (gbelow (below_drewN (Below.refl _ w) nq) _) (gset _ g 1 _)
  clear f0 f1 z1
  generalize ((w.drewN nq).setCell ⟨g, 1, none⟩ (.int .i64 ((k : Int) + 1))) = wS at bS kS gS ⊢
  have f0 := bS.at_ (i := 0) (u := .slice (some ad) n c) rfl
  have f1 := bS.at_ (i := 1) (u := .int .i64 ((k + 1 : Nat) : Int)) rfl
  have hcS : wS.cell? (ad.add k) = some (.string (tx x2)) := (kS.cell (by rw [add_block]; exact hbk)).trans hc
  have q1 : 0 ≤ (k : Int) := by omega
  have q2 : (k : Int) < (n : Int) := by omega
  go_quiet (fail)
  go_wp2_with fail
  go_ret
  have bF := below_drewN kS nq
  exact ⟨rfl, ⟨some ad, n, c, bS.below (below_drewN (Below.refl _ wS) nq) bS.lt, hs.below bF, hn⟩, gtrans gS (gbelow (below_drewN (Below.refl _ wS) nq) _)⟩
set_option maxHeartbeats 1600000 in
theorem next_bad (h : WordsAt w g xs xs.length) :
    Calls Tryz.prog 95 #[.pointer (some ⟨g, 0, none⟩)] w fun e w' => e = thrown 9 ∧ w.grownBy w' (some g) := by
  obtain ⟨A, n, c, hb, hs, hn⟩ := h
  have hl := hs.wlen
  have f0 := hb.at_ (i := 0) (u := .slice A n c) rfl
  have f1 := hb.at_ (i := 1) (u := .int .i64 (xs.length : Nat)) rfl
  rw [hl] at f1
  clear hs hb hl
  go_enter Tryz.func95, Tryz.ntmps95
  go_wp2_with fail
  go_quiet (fail)
  go_wp2_with fail
  refine (bad_any 9 _).mono ?_
  rintro x w' ⟨rfl, rfl⟩
  exact ⟨rfl, rfl, gbelow (below_drewN (Below.refl _ _) _) _⟩
set_option maxHeartbeats 1600000 in
theorem num_ok (hL : LibW b w) (hb : b ≤ g) (h : WordsAt w g xs k) (hx : xs[k]? = some x) (hs : x.length ≤ 1000000) {m : Nat} (hm : numOf x = some m) :
    Calls Tryz.prog 99 #[.pointer (some ⟨g, 0, none⟩)] w fun e w' => e = .returned (.int .i64 m) ∧ WordsAt w' g xs (k + 1) ∧ w.grownBy w' (some g) := by
  have hg := h.lt
  have CN := hide (next_ok h hx)
  have CM := hide (fun w' (hb' : Below g w w') => number_ok (hL.below (hb'.mono hb)) (by have := hb'.size; omega) hs hm)
  clear hx hm hL h
  go_enter Tryz.func99, Tryz.ntmps99
  go_wp2_with fail
  refine CN.out.mono ?_
  rintro e w1 ⟨rfl, h1, b1⟩
  go_wp2_with fail
  refine (CM.out _ (gbel b1 (Nat.le_of_lt hg))).mono ?_
  rintro e w2 ⟨rfl, b2⟩
  go_wp2_with fail
  go_ret
  exact ⟨rfl, h1.below b2, gtrans b1 (gbelow b2 _)⟩
set_option maxHeartbeats 1600000 in
theorem num_bad (hL : LibW b w) (hb : b ≤ g) (h : WordsAt w g xs k) (hx : xs[k]? = some x) (hs : x.length ≤ 1000000) (hm : numOf x = none) :
    Calls Tryz.prog 99 #[.pointer (some ⟨g, 0, none⟩)] w fun e w' => e = thrown 9 ∧ w.grownBy w' (some g) := by
  have hg := h.lt
  have CN := hide (next_ok h hx)
  have CM := hide (fun w' (hb' : Below g w w') => number_bad (hL.below (hb'.mono hb)) (by have := hb'.size; omega) hs hm)
  clear hx hm hL h
  go_enter Tryz.func99, Tryz.ntmps99
  go_wp2_with fail
  refine CN.out.mono ?_
  rintro e w1 ⟨rfl, h1, b1⟩
  go_wp2_with fail
  refine (CM.out _ (gbel b1 (Nat.le_of_lt hg))).mono ?_
  rintro e w2 ⟨rfl, b2⟩
  exact ⟨rfl, rfl, gtrans b1 (gbelow b2 _)⟩
set_option maxHeartbeats 1600000 in
theorem num_none (h : WordsAt w g xs xs.length) :
    Calls Tryz.prog 99 #[.pointer (some ⟨g, 0, none⟩)] w fun e w' => e = thrown 9 ∧ w.grownBy w' (some g) := by
  have CN := hide (next_bad h)
  clear h
  go_enter Tryz.func99, Tryz.ntmps99
  go_wp2_with fail
  refine CN.out.mono ?_
  rintro e w1 ⟨rfl, b1⟩
  exact ⟨rfl, rfl, b1⟩
end
end Go.Proofs.YtjpbjghdplbdcaaGreatDoor
end
section
namespace Go.Proofs.YtjpbjghdplbdcaaGreatDoor
open Go.RowKit Go.Shelf
section
variable {b : Nat} {w : World} {g k : Nat} {xs : List (List UInt8)} {x : List UInt8}
def toldOf (l : List Int) : List UInt8 := l.foldl (fun o n => o ++ 32 :: dec n) [111, 107]
theorem decF_size : ∀ (f u : Nat), (decF f u).length ≤ f + 1
  | 0, u => by simp [decF]
  | f + 1, u => by
    rw [decF]
    have := decF_size f (u / 10)
    split
    · simp
    · simp; omega
theorem dec_size (n : Int) : (dec n).length ≤ 22 := by
  unfold dec
  have h1 := decF_size 20 n.natAbs
  have h2 := decF_size 20 n.toNat
  split
  · simp; omega
  · omega
theorem toldOf_snoc (l : List Int) (n : Int) : toldOf (l ++ [n]) = toldOf l ++ 32 :: dec n := by simp [toldOf]
theorem toldTo_size : ∀ (l : List Int) (o : List UInt8), (l.foldl (fun o n => o ++ 32 :: dec n) o).length ≤ o.length + 23 * l.length
  | [], o => by simp
  | n :: l, o => by
    rw [List.foldl_cons]
    have h1 := toldTo_size l (o ++ 32 :: dec n)
    have h2 := dec_size n
    simp only [List.length_append, List.length_cons] at h1 ⊢
    omega
theorem toldOf_size (l : List Int) : (toldOf l).length ≤ 2 + 23 * l.length := toldTo_size l [111, 107]
set_option maxHeartbeats 1600000 in
theorem told_any {A : Option Addr} {n c : Nat} {l : List Int} (hL : LibW b w) (hb : b ≤ w.heap.size) (h : Si w A n c l) (hn : n ≤ 100000000) (hl : AllI64 l) :
    Calls Tryz.prog 91 #[.slice A n c] w fun e w' => e = .returned (.string (tx (toldOf l))) ∧ Below w.heap.size w w' := by
  have HLN := hide h.ilen
  have HA := hide hl
  have HL := hide hL
  clear hl hL
  go_enter Tryz.func91, Tryz.ntmps91
  go_wp2_with fail
  go_loopw [3, 8] (fun vo vi wr => ∃ j : Nat, j ≤ n ∧ vi = .int .i64 j ∧ vo = .string (tx (toldOf (l.take j))) ∧ Below w.heap.size w wr) (fun _ vi _ => n - (intOf vi).toNat)
  case atStart => exact ⟨0, Nat.zero_le _, rfl, rfl, by repeat' (first | assumption | with_reducible exact Below.refl _ _ | with_reducible apply Below.drew | with_reducible apply below_drewN | with_reducible apply below_alloc | with_reducible refine below_set ?_ ?_ _ | (simp only [World.size_alloc, World.heap_drewN]; omega) | (simp; omega))⟩
  case round =>
    obtain ⟨j, hj, rfl, rfl, hbr⟩ := hrel
    by_cases hlt : j < n
    · obtain ⟨ad, x, rfl, hbk, hx, hc⟩ := (h.on hbr).icell hlt
      have hx64 := HA.out.at_ hx
      have HT := hide (show toldOf (l.take (j + 1)) = toldOf (l.take j) ++ 32 :: dec x by rw [List.take_add_one, hx]; exact toldOf_snoc _ _)
      have CI := hide (itoa_any (n := x) (HL.out.on hbr hb) hx64.1 hx64.2)
      clear hx
      have hsT := toldOf_size (l.take j)
      rw [List.length_take] at hsT
      have hsD := dec_size x
      rw [show (32 :: dec x) = [32] ++ dec x from rfl, ] at HT
      obtain ⟨T, hT⟩ : ∃ T, toldOf (l.take j) = T := ⟨_, rfl⟩
      obtain ⟨D, hD⟩ : ∃ D, dec x = D := ⟨_, rfl⟩
      rw [hT] at hsT HT ⊢
      rw [hD] at hsD HT CI
      clear hT hD
      have hz1 := tx_size T
      have hz2 := tx_size D
      have hz3 : ((⟨#[32]⟩ : ByteArray) ++ tx D).size = 1 + D.length := by rw [show (⟨#[32]⟩ : ByteArray) = tx [32] from rfl, tx_app, tx_size]; simp; omega
      go_wp2_with fail
      refine CI.out.mono ?_
      rintro e w3 ⟨rfl, b3⟩
      go_wp2_with fail
      go_roundw
      case rel => exact ⟨j + 1, by omega, by go_num, by rw [HT.out, ← tx_app, ← tx_app]; rfl, below_on hbr b3⟩
      case measure => simp [intOf]; omega
    · obtain rfl : j = n := by omega
      have HT := hide (show l.take j = l from List.take_of_length_le (by rw [HLN.out]; exact Nat.le_refl _))
      go_wp2_with fail
      go_ret
      exact ⟨by rw [HT.out]; rfl, hbr⟩
theorem one_ok {n : Int} (hL : LibW b w) (hb : b ≤ w.heap.size) (hn : I64 n) :
    Calls Tryz.prog 84 #[.int .i64 n, .int .i64 0] w fun e w' => e = .returned (.string (tx (toldOf [n]))) ∧ Below w.heap.size w w' := by
  have CT := hide (fun w' (hb' : Below w.heap.size w w') A (hs : Si w' A 1 1 [n]) => told_any (hL.on hb' hb) (by have := hb'.size; omega) hs (by omega) (fun x hx => by rw [List.mem_singleton] at hx; subst hx; exact hn))
  clear hL
  go_enter Tryz.func84, Tryz.ntmps84
  go_wp2_with fail
  refine (must_ok _).mono ?_
  rintro e w1 ⟨rfl, rfl⟩
  go_wp2_with fail
  have hsl := Sl.new w1 3 1 1 (ints [n]) (by simp [maxLen]) rfl
  have hb2 := below_alloc (Below.refl _ w1) (.cells #[.int .i64 n] 3)
  refine (CT.out _ hb2 _ (hsl.more (by simp))).mono ?_
  rintro e w2 ⟨rfl, b2⟩
  go_wp2_with fail
  go_ret
  exact ⟨rfl, below_on hb2 b2⟩
theorem one_bad {n e : Int} (h : e ≠ 0) :
    Calls Tryz.prog 84 #[.int .i64 n, .int .i64 e] w fun x w' => x = thrown e ∧ w' = w := by
  go_enter Tryz.func84, Tryz.ntmps84
  go_wp2_with fail
  refine (must_bad h _).mono ?_
  rintro x w1 ⟨rfl, rfl⟩
  exact ⟨rfl, rfl, rfl⟩
theorem text_ok (s : List UInt8) (hs : s.length ≤ 4000000000) :
    Calls Tryz.prog 101 #[.string (tx s), .int .i64 0] w fun e w' => e = .returned (.string (tx ([111, 107, 32] ++ s))) ∧ w' = w := by
  have hz := tx_size s
  go_enter Tryz.func101, Tryz.ntmps101
  go_wp2_with fail
  refine (must_ok _).mono ?_
  rintro e w1 ⟨rfl, rfl⟩
  go_wp2_with fail
  go_ret
  exact ⟨by rw [show (111 :: 107 :: 32 :: s) = [111, 107, 32] ++ s from rfl, ← tx_app]; rfl, rfl⟩
theorem text_bad {v : Value} {e : Int} (h : e ≠ 0) :
    Calls Tryz.prog 101 #[v, .int .i64 e] w fun x w' => x = thrown e ∧ w' = w := by
  go_enter Tryz.func101, Tryz.ntmps101
  go_wp2_with fail
  refine (must_bad h _).mono ?_
  rintro x w1 ⟨rfl, rfl⟩
  exact ⟨rfl, rfl, rfl⟩
end
end Go.Proofs.YtjpbjghdplbdcaaGreatDoor
end
section
namespace Go.Proofs.YtjpbjghdplbdcaaGreatDoor
open Go.RowKit Go.Shelf
def wordAt (xs : List (List UInt8)) (k : Nat) : Option (List UInt8) := xs[k]?
def numAt (xs : List (List UInt8)) (k : Nat) : Option Nat := match xs[k]? with | some x => numOf x | none => none
def ShortW (xs : List (List UInt8)) : Prop := ∀ x ∈ xs, x.length ≤ 1000000
section
variable {b : Nat} {w : World} {g k : Nat} {xs : List (List UInt8)}
theorem at_end (hk : k ≤ xs.length) (h : xs[k]? = none) : k = xs.length := by have := List.getElem?_eq_none_iff.1 h; omega
theorem wordAt_le {x : List UInt8} (h : wordAt xs k = some x) : k + 1 ≤ xs.length := (List.getElem?_eq_some_iff.1 h).1
theorem numAt_le {m : Nat} (h : numAt xs k = some m) : k + 1 ≤ xs.length := by
  unfold numAt at h
  cases hx : xs[k]? with
  | none => rw [hx] at h; simp at h
  | some x => exact (List.getElem?_eq_some_iff.1 hx).1
theorem numAt_i64 {m : Nat} (h : numAt xs k = some m) : I64 (m : Int) := by
  unfold numAt at h
  cases hx : xs[k]? with
  | none => rw [hx] at h; simp at h
  | some x => rw [hx] at h; have := (numOf_some h).2.2.2; constructor <;> omega
theorem word_n (h : WordsAt w g xs k) (hk : k ≤ xs.length) (hm : wordAt xs k = none) :
    Calls Tryz.prog 95 #[.pointer (some ⟨g, 0, none⟩)] w fun e w' => e = thrown 9 ∧ w.grownBy w' (some g) := by
  obtain rfl := at_end hk hm
  exact next_bad h
theorem num_y (hL : LibW b w) (hb : b ≤ g) (h : WordsAt w g xs k) (hs : ShortW xs) {m : Nat} (hm : numAt xs k = some m) :
    Calls Tryz.prog 99 #[.pointer (some ⟨g, 0, none⟩)] w fun e w' => e = .returned (.int .i64 m) ∧ WordsAt w' g xs (k + 1) ∧ w.grownBy w' (some g) := by
  unfold numAt at hm
  cases hx : xs[k]? with
  | none => rw [hx] at hm; simp at hm
  | some x => rw [hx] at hm; exact num_ok hL hb h hx (hs x (List.mem_of_getElem? hx)) hm
theorem num_n (hL : LibW b w) (hb : b ≤ g) (h : WordsAt w g xs k) (hs : ShortW xs) (hk : k ≤ xs.length) (hm : numAt xs k = none) :
    Calls Tryz.prog 99 #[.pointer (some ⟨g, 0, none⟩)] w fun e w' => e = thrown 9 ∧ w.grownBy w' (some g) := by
  unfold numAt at hm
  cases hx : xs[k]? with
  | none => obtain rfl := at_end hk hx; exact num_none h
  | some x => rw [hx] at hm; exact num_bad hL hb h hx (hs x (List.mem_of_getElem? hx)) hm
end
end Go.Proofs.YtjpbjghdplbdcaaGreatDoor
end
