/- Proves the parts of the claim that its last text joins: Rd5, DispP, OrdL. Conditions: those that each theorem names. -/
import Derived.Test.YtjpbjghdplbdcaaGreatDoorM14
import Derived.Test.YtjpbjghdplbdcaaGreatDoorM18
import Derived.Test.YtjpbjghdplbdcaaGreatDoorM19
import Derived.Test.YtjpbjghdplbdcaaGreatDoorM20
import Derived.Test.YtjpbjghdplbdcaaGreatDoorM17
import Derived.Test.YtjpbjghdplbdcaaGreatDoorM04
import Derived.Test.YtjpbjghdplbdcaaGreatDoorM13
import Derived.Shelf.Abstract
import Derived.WalkKit
import Derived.Deep.RegionHeld3
section
namespace Go.Proofs.YtjpbjghdplbdcaaGreatDoor
open Go.RowKit Go.Shelf
set_option linter.unusedVariables false
def writeV (l : List Pr) : List UInt8 × Int := if prErr l.length l ≠ 0 then ([], prErr l.length l) else (wrT (txTo l l.length), wrE (txTo l l.length))
def markQ (s : List UInt8) : Int × List UInt8 :=
  if rdErr s ≠ 0 then (rdErr s, [])
  else if mkErr (rdRes s).length (rdRes s) ≠ 0 then (mkErr (rdRes s).length (rdRes s), [])
  else if setE (rdRes s) (mkRes (rdRes s).length (rdRes s)) ≠ 0 then (setE (rdRes s) (mkRes (rdRes s).length (rdRes s)), [])
  else ((writeV (setAll (rdRes s) (mkRes (rdRes s).length (rdRes s)))).2, [111, 107, 32] ++ (writeV (setAll (rdRes s) (mkRes (rdRes s).length (rdRes s)))).1)
def Short (ps : List Pr) : Prop := ∀ p ∈ ps, p.1.size ≤ 200 ∧ p.2.size ≤ 200
theorem Short.fit {ps : List Pr} (h : Short ps) : Fit ps := fun p hp => by have := h p hp; omega
theorem short_text {ps : List Pr} (h : Short ps) : ∀ k, k ≤ ps.length → (txTo ps k).length ≤ 402 * k
  | 0, _ => by simp [txTo]
  | k + 1, hk => by
    have ih := short_text h k (by omega)
    have hp := List.getElem?_eq_getElem (show k < ps.length by omega)
    have hs := h _ (List.getElem_mem (show k < ps.length by omega))
    have hg : ps.getD k (ByteArray.empty, ByteArray.empty) = ps[k]'(by omega) := by simp [List.getD, hp]
    have hl : ∀ p : Pr, (prText p).length = p.1.size + 1 + p.2.size := fun ⟨x, y⟩ => by
      show (x.data.toList ++ 61 :: y.data.toList).length = x.data.size + 1 + y.data.size
      simp; omega
    unfold txTo
    rw [hg, List.length_append, List.length_append, hl]
    have h1 : (if k = 0 then ([] : List UInt8) else [44]).length ≤ 1 := by split <;> simp
    omega
theorem rd_short {s : List UInt8} : Short (rdRes s) := by
  intro p hp
  unfold rdRes at hp
  split at hp
  · rename_i h0
    split at hp
    · simp at hp
    · unfold rdAll at hp
      obtain ⟨x, hx, rfl⟩ := List.mem_map.1 hp
      have h1 := pieces_size 44 s x hx
      have h2 := cutB_le 61 x
      have h3 : s.length ≤ 200 := by
        unfold rdErr at h0
        split at h0
        · omega
        · omega
      unfold rdPair
      simp only [ByteArray.size, List.size_toArray]
      omega
  · simp at hp
theorem rd_prErr {s : List UInt8} (h : rdErr s = 0) : prErr (rdRes s).length (rdRes s) = 0 := by
  unfold rdRes
  rw [if_pos h]
  split
  · rfl
  · rename_i h1
    unfold rdErr at h
    split at h
    · omega
    · split at h
      · exact h
      · omega
theorem set_short {ps : List Pr} (h : Short ps) (m : Mk) : Short (setAll ps m) := by
  intro p hp
  unfold setAll heads rest at hp
  rcases List.mem_append.1 hp with hp | hp
  · rcases List.mem_append.1 hp with hp | hp
    · cases hx : m.2.2.1 with
      | false => rw [hx] at hp; simp at hp
      | true =>
        rw [hx] at hp
        simp only [cond_true, List.mem_singleton] at hp
        subst hp
        have h1 := thS_size (digs 14 m.1.toNat)
        rw [digs_len] at h1
        obtain ⟨T, hT⟩ : ∃ T, thS (digs 14 m.1.toNat) = T := ⟨_, rfl⟩
        rw [hT] at h1 ⊢
        exact ⟨by show thName.size ≤ 200; decide, by simp only [ByteArray.size, List.size_toArray]; omega⟩
    · cases hx : m.2.2.2 with
      | false => rw [hx] at hp; simp at hp
      | true =>
        rw [hx] at hp
        simp only [cond_true, List.mem_singleton] at hp
        subst hp
        exact ⟨by show rvName.size ≤ 200; decide, by simp only [ByteArray.size, List.size_toArray]; rw [digs_len]; omega⟩
  · exact h p (List.mem_filter.1 hp).1
section
variable {w : World} {A : Option Addr} {n c : Nat} {ps : List Pr}
theorem sset_any (h : Sp2 w A n c ps) (hf : Fit ps) (hE : prErr n ps = 0) (m : Mk) :
    Calls Tryz.prog 110 #[.slice A n c, mkA m] w (SetRet w (setL ps m (setE ps m)) (setE ps m)) := by
  obtain ⟨a, b, x, y⟩ := m
  by_cases hd : (isDraw a && isDraw b) = true
  · obtain ⟨h1, h2⟩ := Bool.and_eq_true_iff.1 hd
    obtain ⟨a0, _⟩ : 0 ≤ a ∧ a ≤ 72057594037927935 := of_decide_eq_true h1
    obtain ⟨b0, _⟩ : 0 ≤ b ∧ b ≤ 72057594037927935 := of_decide_eq_true h2
    obtain ⟨a, rfl⟩ := Int.eq_ofNat_of_zero_le a0
    obtain ⟨b, rfl⟩ := Int.eq_ofNat_of_zero_le b0
    exact sset_ok h hf hE h1 h2 rfl
  · have hd2 : (isDraw a && isDraw b) = false := by simpa using hd
    have e : setE ps (a, b, x, y) = 1 := by
      unfold setE
      rw [if_neg]
      exact hd
    rw [e]
    exact sset_arg h hf hE hd2
theorem write_any (h : Sp2 w A n c ps) (hs : Short ps) :
    Calls Tryz.prog 111 #[.slice A n c] w fun e w' => e = .returned (.tuple #[.string (tx (writeV ps).1), .int .i64 (writeV ps).2]) ∧ Below w.heap.size w w' := by
  have hl : ps.length = n := h.slen
  unfold writeV
  rw [hl]
  by_cases hE : prErr n ps = 0
  · rw [if_neg (by rw [hE]; decide)]
    have hn := (prErr_ok hl hE).1
    refine write_ok h hs.fit hE ?_
    have := short_text hs n (by omega)
    omega
  · rw [if_pos hE]
    exact write_bad h hs.fit rfl hE
end
theorem writeV_size {ps : List Pr} (hs : Short ps) : (writeV ps).1.length ≤ 4000000000 := by
  unfold writeV
  split
  · simp
  · unfold wrT
    split
    · simp
    · dsimp only; omega
section
variable {w : World} {bx b : Nat} {s : List UInt8}
theorem LibW.maxSet (h : LibW b w) : MaxSet w := by
  obtain ⟨m, hm⟩ := h.mset
  exact ⟨m, hm⟩
set_option maxRecDepth 100000 in
set_option maxHeartbeats 6400000 in
theorem read5_any (hL : LibW b w) (hbw : b ≤ w.heap.size) (hs : s.length ≤ 1000000) (bbx : Blk w bx 9 #[.string (tx s)]) :
    Calls Tryz.prog 107 #[.pointer (some ⟨bx, 0, none⟩)] w fun e w' => Asked w (markQ s) e w' := by
  have HL := hide hL
  have CR := hide (sread_any (l := s) (by omega) hL.maxSet)
  have HSH := hide (rd_short (s := s))
  have HPE := hide (fun h => rd_prErr (s := s) h)
  obtain ⟨Q, hQ⟩ : ∃ Q, markQ s = Q := ⟨_, rfl⟩
  have HQ := hide hQ
  rw [hQ]
  have abx := bbx.at_ (i := 0) (u := .string (tx s)) rfl
  unfold markQ at hQ
  have HQ2 := hide hQ
  obtain ⟨E1, hE1⟩ : ∃ E1, rdErr s = E1 := ⟨_, rfl⟩
  obtain ⟨ps, hps⟩ : ∃ ps, rdRes s = ps := ⟨_, rfl⟩
  rw [hE1, hps] at CR HQ2
  rw [hE1, hps] at HPE
  rw [hps] at HSH
  clear hL hQ hE1 hps HQ
  go_enter Tryz.func107, Tryz.ntmps107
  go_wp2_with fail
  refine CR.out.mono ?_
  rintro e w1 ⟨A1, n1, c1, rfl, s1, b1⟩
  by_cases h1 : E1 ≠ 0
  · have hq := HQ2.out
    rw [if_pos h1] at hq
    subst hq
    go_wp2_with fail
    refine (must_bad h1 _).mono ?_
    rintro e w2 ⟨rfl, rfl⟩
    exact ⟨rfl, b1, .inr ⟨h1, rfl⟩⟩
  obtain rfl : E1 = 0 := Decidable.not_not.1 h1
  have hq3 := HQ2.out
  rw [if_neg h1] at hq3
  have HQ3 := hide hq3
  clear hq3
  have hpe := HPE.out rfl
  have hl1 : ps.length = n1 := s1.slen
  rw [hl1] at hpe HQ3
  have CM := hide (fun w' (hb : Below w1.heap.size w1 w') => smark_ok (s1.on hb) HSH.out.fit hpe)
  have CS := hide (fun w' (hb : Below w1.heap.size w1 w') => sset_any (s1.on hb) HSH.out.fit hpe (mkRes n1 ps))
  clear HQ2 HPE hpe
  obtain ⟨E2, hE2⟩ : ∃ E2, mkErr n1 ps = E2 := ⟨_, rfl⟩
  obtain ⟨m, hm⟩ : ∃ m, mkRes n1 ps = m := ⟨_, rfl⟩
  rw [hE2, hm] at CM HQ3
  rw [hm] at CS
  clear hE2 hm hl1
  obtain ⟨ma, mb, mx, my⟩ := m
  have CM := hide (show ∀ w', Below w1.heap.size w1 w' → Calls Tryz.prog 109 #[.slice A1 n1 c1] w' fun e w'' => e = .returned (.tuple #[.agg #[.int .i64 ma, .int .i64 mb, .bool mx, .bool my], .int .i64 E2]) ∧ Below w'.heap.size w' w'' from CM.out)
  have CS := hide (show ∀ w', Below w1.heap.size w1 w' → Calls Tryz.prog 110 #[.slice A1 n1 c1, .agg #[.int .i64 ma, .int .i64 mb, .bool mx, .bool my]] w' (SetRet w' (setL ps (ma, mb, mx, my) (setE ps (ma, mb, mx, my))) (setE ps (ma, mb, mx, my))) from CS.out)
  go_wp2_with fail
  refine (must_ok _).mono ?_
  rintro e w2 ⟨rfl, rfl⟩
  go_wp2_with fail
  refine (CM.out _ (by repeat' (first | assumption | with_reducible exact Below.refl _ _ | with_reducible apply Below.drew | with_reducible apply below_drewN | with_reducible apply below_alloc | with_reducible refine below_set ?_ ?_ _ | (simp only [World.size_alloc, World.heap_drewN]; omega) | (simp; omega)))).mono ?_
  rintro e w3 ⟨rfl, b3⟩
  by_cases h2 : E2 ≠ 0
  · have hq := HQ3.out
    rw [if_pos h2] at hq
    subst hq
    go_wp2_with fail
    refine (must_bad h2 _).mono ?_
    rintro e w4 ⟨rfl, rfl⟩
    refine ⟨rfl, ?_, .inr ⟨h2, rfl⟩⟩
    have k3 := below_on b1 b3
    repeat' (first | assumption | with_reducible exact Below.refl _ _ | with_reducible apply Below.drew | with_reducible apply below_drewN | with_reducible apply below_alloc | with_reducible refine below_set ?_ ?_ _ | (simp only [World.size_alloc, World.heap_drewN]; omega) | (simp; omega))
  obtain rfl : E2 = 0 := Decidable.not_not.1 h2
  have hq4 := HQ3.out
  rw [if_neg h2] at hq4
  have HQ4 := hide hq4
  clear HQ3 hq4
  obtain ⟨E3, hE3⟩ : ∃ E3, setE ps (ma, mb, mx, my) = E3 := ⟨_, rfl⟩
  have HS4 := hide (set_short HSH.out (ma, mb, mx, my))
  obtain ⟨L, hL⟩ : ∃ L, setAll ps (ma, mb, mx, my) = L := ⟨_, rfl⟩
  rw [hE3] at CS HQ4
  rw [hL] at HQ4 HS4
  have HLS := hide hL
  have k3 := below_on b1 b3
  have hb4 := below_alloc b3 (.cells #[.int .i64 ma, .int .i64 mb, .bool mx, .bool my] 111)
  have kb4 := below_alloc k3 (.cells #[.int .i64 ma, .int .i64 mb, .bool mx, .bool my] 111)
  clear hE3 hL
  go_wp2_with fail
  refine (must_ok _).mono ?_
  rintro e w4 ⟨rfl, rfl⟩
  go_wp2_with fail
  refine (CS.out _ hb4).mono ?_
  rintro e w5 ⟨A5, n5, c5, rfl, s5, b5⟩
  have k5 := below_on kb4 b5
  by_cases h3 : E3 ≠ 0
  · have hq := HQ4.out
    rw [if_pos h3] at hq
    subst hq
    go_wp2_with fail
    refine (must_bad h3 _).mono ?_
    rintro e w6 ⟨rfl, rfl⟩
    exact ⟨rfl, k5, .inr ⟨h3, rfl⟩⟩
  obtain rfl : E3 = 0 := Decidable.not_not.1 h3
  have hq5 := HQ4.out
  rw [if_neg h3] at hq5
  have s6 : Sp2 w5 A5 n5 c5 L := by
    have := s5
    unfold setL at this
    rw [if_pos rfl, HLS.out] at this
    exact this
  have CW := hide (write_any s6 HS4.out)
  have HZ := hide (writeV_size HS4.out)
  obtain ⟨T, E4, hTE⟩ : ∃ T E4, writeV L = (T, E4) := ⟨_, _, rfl⟩
  rw [hTE] at CW HZ hq5
  dsimp only at CW HZ hq5
  subst hq5
  clear HQ4 hTE s5 s6
  go_wp2_with fail
  refine (must_ok _).mono ?_
  rintro e w6 ⟨rfl, rfl⟩
  go_wp2_with fail
  refine CW.out.mono ?_
  rintro e w7 ⟨rfl, b7⟩
  by_cases h4 : E4 = 0
  · subst h4
    go_wp2_with fail
    refine (text_ok _ HZ.out).mono ?_
    rintro e w8 ⟨rfl, rfl⟩
    go_wp2_with fail
    go_ret
    exact ⟨below_on k5 b7, .inl ⟨rfl, rfl⟩⟩
  · go_wp2_with fail
    refine (text_bad h4).mono ?_
    rintro e w8 ⟨rfl, rfl⟩
    exact ⟨rfl, below_on k5 b7, .inr ⟨h4, rfl⟩⟩
end
end Go.Proofs.YtjpbjghdplbdcaaGreatDoor
end
section
namespace Go.Proofs.YtjpbjghdplbdcaaGreatDoor
open Go.RowKit Go.Shelf
def pondD (xs : List (List UInt8)) (k : Nat) : Option (Nat × (DSt → Said)) := match numAt xs k, numAt xs (k + 1) with
  | some x0, some x1 => some (k + 2, fun s => pondS s x0 x1)
  | _, _ => none
def leastD (xs : List (List UInt8)) (k : Nat) : Option (Nat × (DSt → Said)) := match numAt xs k with
  | some x0 => some (k + 1, fun s => leastS s x0)
  | _ => none
def manyD (_ : List (List UInt8)) (k : Nat) : Option (Nat × (DSt → Said)) := some (k, fun s => manyS s)
def fewD (xs : List (List UInt8)) (k : Nat) : Option (Nat × (DSt → Said)) := match numAt xs k, numAt xs (k + 1) with
  | some x0, some x1 => some (k + 2, fun s => fewS s x0 x1)
  | _, _ => none
def askD (xs : List (List UInt8)) (k : Nat) : Option (Nat × (DSt → Said)) := match numAt xs k with
  | some x0 => some (k + 1, fun s => askS s x0)
  | _ => none
def ruleD (xs : List (List UInt8)) (k : Nat) : Option (Nat × (DSt → Said)) := match wordAt xs k, numAt xs (k + 1), numAt xs (k + 2) with
  | some x0, some x1, some x2 => some (k + 3, fun s => ruleS s (tx x0) x1 x2)
  | _, _, _ => none
def ofD (xs : List (List UInt8)) (k : Nat) : Option (Nat × (DSt → Said)) := match wordAt xs k with
  | some x0 => some (k + 1, fun s => ofS s (tx x0))
  | _ => none
def thD (xs : List (List UInt8)) (k : Nat) : Option (Nat × (DSt → Said)) := match numAt xs k with
  | some x0 => some (k + 1, fun s => ((thQ x0).1, s, (thQ x0).2))
  | _ => none
def partD (xs : List (List UInt8)) (k : Nat) : Option (Nat × (DSt → Said)) := match numAt xs k, numAt xs (k + 1) with
  | some x0, some x1 => some (k + 2, fun s => ((partQ x0 x1).1, s, (partQ x0 x1).2))
  | _, _ => none
def countD (xs : List (List UInt8)) (k : Nat) : Option (Nat × (DSt → Said)) := match numAt xs k, numAt xs (k + 1) with
  | some x0, some x1 => some (k + 2, fun s => ((countQ x0 x1).1, s, (countQ x0 x1).2))
  | _, _ => none
def markD (xs : List (List UInt8)) (k : Nat) : Option (Nat × (DSt → Said)) := match wordAt xs k with
  | some x0 => some (k + 1, fun s => ((markQ x0).1, s, (markQ x0).2))
  | _ => none
theorem enters_of {f : FuncId} {fn : Func} {c : Code} (hf : Tryz.prog.funcs[f]? = some fn) (hname : (fn.name == "runtime.NumGoroutine") = false) (hb : fn.body = some c) : Enters Tryz.prog f := by
  intro args W
  have h1 : fn.name ≠ "runtime.NumGoroutine" := by simpa using hname
  simp [callFunc, hf, h1, hb, mark]
def Will (b g : Nat) (w : World) (F : FuncId) (caps : Array Value) (R : DSt → Said) : Prop :=
  Enters Tryz.prog F ∧ ∀ w' s, Below w.heap.size w w' → LibW b w' → b ≤ g → DeskAt w' g s → DOk s → Calls Tryz.prog F caps w' fun e w'' => Did w' g (R s) e w''
def Disp (b g gw : Nat) (xs : List (List UInt8)) (w : World) (r : Option (Nat × (DSt → Said))) (e : Ending) (w' : World) : Prop :=
  match r with
  | some (k', R) => w.grownBy w' (some gw) ∧ ∃ F caps, e = .returned (.func (.func F) #[] caps) ∧ WordsAt w' gw xs k' ∧ Will b g w' F caps R
  | none => w.grownBy w' (some gw) ∧ e = thrown 9
theorem Blk.kept {w w' : World} {g r : Nat} {t : TypeId} {vs : Array Value} (h : Blk w g t vs) (hg : w.grownBy w' (some r)) (hne : g ≠ r) : Blk w' g t vs := (hg.block g h.lt (fun e => hne (by injection e))).trans h
theorem did_of {w w' : World} {g : Nat} {s : DSt} {q : Int × List UInt8} {e : Ending} (hD : DeskAt w g s) (h : Asked w q e w') : Did w g (q.1, s, q.2) e w' := ⟨gbelow h.1 _, hD.on h.1, h.2⟩
end Go.Proofs.YtjpbjghdplbdcaaGreatDoor
end
section
namespace Go.Proofs.YtjpbjghdplbdcaaGreatDoor
open Go
section
variable {P : Program} {ops : Array Oper} {Q : Exit → Act → World → Prop} {md : Region.Mode} {S : Array Bool → World → Prop}
def anyTill (P : Program) (md : Region.Mode) (ops : Array Oper) (Q : Exit → Act → World → Prop) (S : Array Bool → World → Prop) : Nat → Array Bool → Act → World → Prop
  | 0 => fun l a w => Region.ready md ops l = [] ∧ Q .normal a w
  | k + 1 => fun l a w => (Region.ready md ops l = [] → Q .normal a w) ∧ ∀ i ∈ Region.ready md ops l, wpOp P ops Q i (fun a2 w2 => S (l.setIfInBounds i true) w2 ∧ anyTill P md ops Q S k (l.setIfInBounds i true) a2 w2) a w

theorem anyTill.any : ∀ (k : Nat) {l : Array Bool} {a : Act} {w : World}, anyTill P md ops Q S k l a w → wpAny P md ops Q k l a w
  | 0, _, _, _, h => h
  | k + 1, _, _, _, h => ⟨h.1, fun i hi => wpOp_mono (fun _ _ hr => anyTill.any k hr.2) (h.2 i hi)⟩

theorem anyTill.begin {id : Nat} {a : Act} {w : World} (hm : P.follows .mixedOrders = true)
    (h : anyTill P .any ops Q S ops.size (Array.replicate ops.size false) a w.drew) : (Code.region id ops true).wp P Q a w :=
  wp_region_any hm (anyTill.any _ h)

theorem anyTill.fin {l : Array Bool} {a : Act} {w : World} (hr : Region.ready md ops l = []) (h : Q .normal a w) : ∀ k, anyTill P md ops Q S k l a w
  | 0 => ⟨hr, h⟩
  | _ + 1 => ⟨fun _ => h, fun i hi => by rw [hr] at hi; cases hi⟩

theorem anyTill.first {T : Array Bool → Prop} {C : World → Prop} {i : Nat} {oi : Oper} {v : Value} (hi : ops[i]? = some oi) (hsel : Region.noSelect ops = true)
    (hQ : ∀ c a w, Q (.panic c) (a.put oi.dst v) w → Q (.panic c) a w)
    (hT : ∀ l j, T l → i ∈ Region.ready md ops l → j ∈ Region.ready md ops l → j ≠ i → T (l.setIfInBounds j true))
    (hC : ∀ l w, T l → S l w → C w) (hB : ∀ l w, S (l.setIfInBounds i true) w ↔ S l w) :
    ∀ (k : Nat) (l : Array Bool) (a : Act) (w : World), T l →
      (∀ j oj, ops[j]? = some oj → j ≠ i → l.getD j true = false → (∀ e ∈ oj.after, Region.binds md e = true → e.on ≠ i) → oi.apart ops oj = true) →
      i ∈ Region.ready md ops l → YieldsIf P ops C oi v a → S l w →
      anyTill P md ops Q S k (l.setIfInBounds i true) (a.put oi.dst v) w → anyTill P md ops Q S (k + 1) l a w := by
  intro k
  induction k with
  | zero =>
    intro l a w ht _ hr hy hs H
    refine ⟨fun h => (by rw [h] at hr; cases hr), fun j hj => ?_⟩
    by_cases e : j = i
    · exact e ▸ hy.wpOp hi (hC l w ht hs) ⟨(hB l w).2 hs, H⟩
    · have := ready_mono (md := md) (ops := ops) hj e
      rw [H.1] at this
      cases this
  | succ k ih =>
    intro l a w ht hfree hr hy hs H
    refine ⟨fun h => (by rw [h] at hr; cases hr), fun j hj => ?_⟩
    by_cases e : j = i
    · exact e ▸ hy.wpOp hi (hC l w ht hs) ⟨(hB l w).2 hs, H⟩
    obtain ⟨un, oj, hoj, hall⟩ := mem_ready.1 hj
    have far : ∀ x ∈ oj.after, Region.binds md x = true → x.on ≠ i := fun x hx hb hxi => by
      have up := hall x hx hb
      have dn := (mem_ready.1 hr).1
      rw [hxi] at up
      by_cases hlt : i < l.size
      · simp [hlt] at up dn; rw [dn] at up; cases up
      · simp [Array.getElem?_eq_none (Nat.le_of_not_lt hlt)] at up
    have hap := hfree j oj hoj e un far
    have h2 := wpOp_putIf hoj hap (fun cs b => Region.noSelect_spec hsel i oi cs b hi) (fun cs b => Region.noSelect_spec hsel j oj cs b hoj) hQ hy (H.2 j (ready_mono hj e))
    refine wpOp_mono (fun a2 w2 h3 => ?_) h2
    obtain ⟨hy2, hs2, H2⟩ := h3
    rw [Array.setIfInBounds_comm _ _ (Ne.symm e)] at hs2 H2
    have hs3 := (hB _ _).1 hs2
    refine ⟨hs3, ih (l.setIfInBounds j true) a2 w2 (hT l j ht hr hj e) (fun k2 ok hk hki hun hno => hfree k2 ok hk hki ?_ hno) (ready_mono hr (Ne.symm e)) hy2 hs3 H2⟩
    by_cases hjk : j = k2
    · exact hjk ▸ un
    · rwa [getD_set_ne true hjk] at hun

theorem anyTill.take {i : Nat} {oi : Oper} {v : Value} {k : Nat} {l : Array Bool} {a : Act} {w : World} (hi : ops[i]? = some oi) (hsel : Region.noSelect ops = true) (hf : Region.free md ops l i = true) (hr : (Region.ready md ops l).contains i = true)
    (hQ : ∀ c a w, Q (.panic c) (a.put oi.dst v) w → Q (.panic c) a w) (hB : ∀ l w, S (l.setIfInBounds i true) w ↔ S l w) (hy : YieldsIf P ops (fun _ => True) oi v a) (hs : S l w)
    (h : anyTill P md ops Q S k (l.setIfInBounds i true) (a.put oi.dst v) w) : anyTill P md ops Q S (k + 1) l a w :=
  anyTill.first (T := fun _ => True) (C := fun _ => True) hi hsel hQ (fun _ _ _ _ _ _ => trivial) (fun _ _ _ _ => trivial) hB k l a w trivial (Region.free_spec hi hf) (by simpa using hr) hy hs h

def waits (md : Region.Mode) (ops : Array Oper) (m i : Nat) : Bool := match ops[m]? with | some o => o.after.any (fun e => Region.binds md e && e.on == i) | none => false

theorem anyTill.read {C : World → Prop} {i m : Nat} {oi : Oper} {v : Value} {k : Nat} {l : Array Bool} {a : Act} {w : World} (hi : ops[i]? = some oi) (hsel : Region.noSelect ops = true) (hf : Region.free md ops l i = true) (hr : (Region.ready md ops l).contains i = true)
    (hw : waits md ops m i = true) (hl : l.getD m true = false) (hC : ∀ l w, l.getD m true = false → S l w → C w)
    (hQ : ∀ c a w, Q (.panic c) (a.put oi.dst v) w → Q (.panic c) a w) (hB : ∀ l w, S (l.setIfInBounds i true) w ↔ S l w) (hy : YieldsIf P ops C oi v a) (hs : S l w)
    (h : anyTill P md ops Q S k (l.setIfInBounds i true) (a.put oi.dst v) w) : anyTill P md ops Q S (k + 1) l a w := by
  refine anyTill.first (T := fun l => l.getD m true = false) hi hsel hQ ?_ hC hB k l a w hl (Region.free_spec hi hf) (by simpa using hr) hy hs h
  intro l j hT hr hj hne
  have hjm : j ≠ m := fun e => by
    subst e
    obtain ⟨_, oj, hoj, hall⟩ := mem_ready.1 hj
    simp only [waits, hoj] at hw
    obtain ⟨x, hx, hb⟩ := Array.any_eq_true'.1 hw
    simp only [Bool.and_eq_true, beq_iff_eq] at hb
    have up := hall x hx hb.1
    have dn := (mem_ready.1 hr).1
    rw [hb.2] at up
    by_cases hlt : i < l.size
    · simp [hlt] at up dn; rw [dn] at up; cases up
    · simp [Array.getElem?_eq_none (Nat.le_of_not_lt hlt)] at up
  rwa [getD_set_ne true hjm]

def AllTill (P : Program) (md : Region.Mode) (ops : Array Oper) (Q : Exit → Act → World → Prop) (S : Array Bool → World → Prop) (k : Nat) (l : Array Bool) (a : Act) (w : World) (rs : List Nat) : Prop :=
  ∀ i ∈ rs, wpOp P ops Q i (fun a2 w2 => S (l.setIfInBounds i true) w2 ∧ anyTill P md ops Q S k (l.setIfInBounds i true) a2 w2) a w
theorem AllTill.nil {k : Nat} {l : Array Bool} {a : Act} {w : World} : AllTill P md ops Q S k l a w [] := fun _ h => by cases h
theorem AllTill.cons {k : Nat} {l : Array Bool} {a : Act} {w : World} {i : Nat} {o : Oper} {rs : List Nat} (ho : ops[i]? = some o)
    (h : ∀ K : Act → World → Prop, Shut (∀ a w, S (l.setIfInBounds i true) w → (S (l.setIfInBounds i true) w → anyTill P md ops Q S k (l.setIfInBounds i true) a w) → K a w) → if Region.wanted o (yielded ops a.tmps) = true then Oper.wp P o a w K Q else K (a.put o.dst undef) w)
    (hs : AllTill P md ops Q S k l a w rs) : AllTill P md ops Q S k l a w (i :: rs) := fun j hj => by
  rcases List.mem_cons.1 hj with e | e
  · subst e; exact wpOp_step ho (fun K hK => h K (fun a w h1 h2 => hK a w ⟨h1, h2 h1⟩))
  · exact hs j e
theorem anyTill.ready {rs : List Nat} {k : Nat} {l : Array Bool} {a : Act} {w : World} (hr : Region.ready md ops l = rs) (hne : rs ≠ []) (h : AllTill P md ops Q S k l a w rs) : anyTill P md ops Q S (k + 1) l a w :=
  ⟨fun h0 => absurd (hr ▸ h0) hne, hr ▸ h⟩
end
end Go.Proofs.YtjpbjghdplbdcaaGreatDoor
end
