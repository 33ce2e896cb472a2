/-
  The walk of the law BottomSays. Conditions: the slices read as lists of numbers.
-/
import Derived.Test.YtkliebhpdcjdgaaBot5
import Derived.Test.YtkliebhpdcjdgaaLeast
import Derived.Test.YtkliebhpdcjdgaaConcat
namespace Go.Proofs.Ytkliebhpdcjdgaa
open Go.RowKit Go.Shelf Go.Sort

/-- An append at a step of a region that draws its order, wanted by its guard. -/
theorem step_append_g {P : Program} {t e : TypeId} {z : Value} {size bytes : Nat} (T : ElemT P t e z size bytes) {w : World} {ops : Array Oper} {o : Oper} {a : Act} {K : Act → World → Prop} {Q : Exit → Act → World → Prop} {E : Prop} (hw : Region.wanted o (yielded ops a.tmps) = true) (s x : Operand)
    (ho : o.op = .call { callee := .builtin .append, args := #[s, x], argTypes := #[t, t] })
    {base n c m k B : Nat} {A S : Option Addr} {xs news : List Value} (hes : a.eval s = .slice A n c) (hex : a.eval x = .slice S m k)
    (hown : Own w base e size A n c xs) (hs : Sl w B size S m k news) (h1 : ∀ u ∈ news, u.oneCell' = true)
    (h63 : n + m ≤ maxLen) (hbytes : (n + m) * bytes ≤ 140737488355328) (hbase : base ≤ w.heap.size)
    (h : ∀ A' c' w', Apped w w' base e size A A' (n + m) c' (xs ++ news) → K (a.put o.dst (.slice A' (n + m) c')) w') :
    if Region.wanted o (yielded ops a.tmps) = true then Oper.wp P o a w K Q else E := by
  rw [if_pos hw]
  exact wp_append_sl T s x ho hes hex hown hs h1 h63 hbytes hbase h
theorem bot_zero : botErr 0 0 [] = 1 := by decide
/-- What Put, Join leave, whether it went well or not. -/
def BotX (w : World) (K E : Int) (zs : List Int) (e : Ending) (w' : World) : Prop := ∃ A n c, e = .returned (.tuple #[.agg #[.int .i64 K, .slice A n c], .int .i64 E]) ∧ Si w' A n c zs ∧ Below w.heap.size w w'
theorem botX_of {w w' : World} {K : Int} {zs : List Int} {e : Ending} (h : BotRet w K zs e w') : BotX w K 0 zs e w' := by
  obtain ⟨A, n, c, he, ho, hb⟩ := h
  exact ⟨A, n, c, he, ho.sl, hb⟩
theorem botX_zero {w w' : World} {E : Int} {e : Ending} (h : e = .returned (.tuple #[.agg #[.int .i64 0, .slice none 0 0], .int .i64 E]) ∧ Below w.heap.size w w') : BotX w 0 E [] e w' := ⟨none, 0, 0, h.1, Sl.nil _ _ _, h.2⟩
section
variable {A A2 : Option Addr} {n c n2 c2 : Nat} {xs ys : List Int} {w : World} {K K2 x : Int}
theorem put_x {k : Nat} (h : Si w A n c xs) (he : botErr (k : Int) n xs = 0) (hd : isDraw x = true) {zs : List Int} (hz : (insU x xs).take k = zs) :
    Calls Try.prog 17 #[.agg #[.int .i64 k, .slice A n c], .int .i64 x] w (BotX w k 0 zs) := by
  rw [← hz]; exact (bput_ok h he hd).mono fun _ _ h => botX_of h
theorem put_y {k : Nat} (h : Si w A n c xs) (he : botErr (k : Int) n xs = 0) (hd : isDraw x = false) :
    Calls Try.prog 17 #[.agg #[.int .i64 k, .slice A n c], .int .i64 x] w (BotX w 0 1 []) := (bput_arg h he hd).mono fun _ _ h => botX_zero h
theorem join_x {k : Nat} (h : Si w A n c xs) (h2 : Si w A2 n2 c2 ys) (he : botErr (k : Int) n xs = 0) (he2 : botErr (k : Int) n2 ys = 0) {zs : List Int} (hz : putTo k xs ys n2 = zs) :
    Calls Try.prog 18 #[.agg #[.int .i64 k, .slice A n c], .agg #[.int .i64 k, .slice A2 n2 c2]] w (BotX w k 0 zs) := by
  rw [← hz]; exact (bjoin_ok h h2 he he2).mono fun _ _ h => botX_of h
theorem join_y {k : Int} (h : Si w A n c xs) (h2 : Si w A2 n2 c2 ys) {E : Int} (he : jnErr k n xs K2 n2 ys = E) (h0 : ¬ E = 0) :
    Calls Try.prog 18 #[.agg #[.int .i64 k, .slice A n c], .agg #[.int .i64 K2, .slice A2 n2 c2]] w (BotX w 0 E []) := (bjoin_bad h h2 he h0).mono fun _ _ h => botX_zero h
theorem same_nil {w : World} {Ay : Option Addr} {ny cy : Nat} (h : Si w Ay ny cy []) :
    Calls Try.prog 22 #[.agg #[.int .i64 0, .slice Ay ny cy], .agg #[.int .i64 0, .slice none 0 0]] w fun e w' => e = .returned (.bool true) ∧ Below w.heap.size w w' := by
  have hz := h.ilen
  simp only [List.length_nil] at hz
  subst hz
  exact sameb_yes h (Sl.nil _ _ _)
theorem join_is {k n n2 : Nat} {xs ys : List Int} (hu : Up xs) (hl : xs.length = n) (hl2 : ys.length = n2) (hn : n ≤ k) : putTo k xs ys n2 = (allU (xs ++ ys)).take k := by
  unfold putTo
  rw [← hl2, List.take_length, allU_append, allU_self hu, ← fold_take k ys xs hu, List.take_of_length_le (by omega : xs.length ≤ k)]
theorem put_is {k : Nat} {xs : List Int} (hu : Up xs) : (insU x xs).take k = (allU (xs ++ [x])).take k := by rw [allU_snoc, allU_self hu]

set_option maxRecDepth 100000 in
set_option maxHeartbeats 3200000 in
theorem law_bot_bad (h : Si w A n c xs) (h2 : Si w A2 n2 c2 ys) {E : Int} (he : botErr K n xs = E) (h0 : ¬ E = 0) :
    Calls Try.prog 4 #[.agg #[.int .i64 K, .slice A n c], .agg #[.int .i64 K2, .slice A2 n2 c2], .int .i64 x] w fun e w' => e = .returned (.bool true) ∧ Below w.heap.size w w' := by
  have t1 : (E != 0) = true := by simpa using h0
  have t2 : (E == E) = true := by simp
  have t3 : (E != E) = false := by simp
  have hj : jnErr K n xs K2 n2 ys = E := by unfold jnErr; rw [he, if_neg h0]
  have HE := hide he
  have HJ := hide hj
  have HN := hide h0
  obtain ⟨pa_0, pb_0⟩ := twoBlk w (.int .i64 K) (.slice A n c) (.int .i64 K2) (.slice A2 n2 c2) 37
  have k_0 : Below w.heap.size w ((w.alloc (.cells #[.int .i64 K, .slice A n c] 37)).alloc (.cells #[.int .i64 K2, .slice A2 n2 c2] 37)) := by repeat' (first | assumption | with_reducible exact Below.refl _ _ | with_reducible apply Below.drew | with_reducible apply below_drewN | with_reducible apply below_alloc | with_reducible refine below_set ?_ ?_ _ | (simp only [World.size_alloc, World.heap_drewN]; omega) | (simp; omega))
  clear he hj h0
  have f_pa0_0 := pa_0.at_ (i := 0) (u := .int .i64 K) rfl
  have f_pa1_0 := pa_0.at_ (i := 1) (u := .slice A n c) rfl
  go_enter Try.func4, Try.ntmps4
  go_wp2_with fail
  refine (bput_bad (x := x) (h.on k_0) HE.out HN.out).mono ?_
  rintro e w1 ⟨rfl, b1⟩
  clear f_pa0_0 f_pa1_0
  have pa_1 := pa_0.below b1 pa_0.lt
  have pb_1 := pb_0.below b1 pb_0.lt
  have k_1 := below_on k_0 b1
  have pa_2 := pa_1.alloc (.cells #[.int .i64 0, .slice none 0 0] 37)
  have pb_2 := pb_1.alloc (.cells #[.int .i64 0, .slice none 0 0] 37)
  have k_2 := below_alloc k_1 (.cells #[.int .i64 0, .slice none 0 0] 37)
  have px_2 := Blk.new w1 37 #[.int .i64 0, .slice none 0 0]
  have f_pa0_2 := pa_2.at_ (i := 0) (u := .int .i64 K) rfl
  have f_pa1_2 := pa_2.at_ (i := 1) (u := .slice A n c) rfl
  have f_pb0_2 := pb_2.at_ (i := 0) (u := .int .i64 K2) rfl
  have f_pb1_2 := pb_2.at_ (i := 1) (u := .slice A2 n2 c2) rfl
  go_wp2_with fail
  refine (bjoin_bad (h.on k_2) (h2.on k_2) HJ.out HN.out).mono ?_
  rintro e w2 ⟨rfl, b2⟩
  clear f_pa0_2 f_pa1_2 f_pb0_2 f_pb1_2
  have pa_3 := pa_2.below b2 pa_2.lt
  have pb_3 := pb_2.below b2 pb_2.lt
  have px_3 := px_2.below b2 px_2.lt
  have k_3 := below_on k_2 b2
  have pa_4 := pa_3.alloc (.cells #[.int .i64 0, .slice none 0 0] 37)
  have pb_4 := pb_3.alloc (.cells #[.int .i64 0, .slice none 0 0] 37)
  have px_4 := px_3.alloc (.cells #[.int .i64 0, .slice none 0 0] 37)
  have k_4 := below_alloc k_3 (.cells #[.int .i64 0, .slice none 0 0] 37)
  have py_4 := Blk.new w2 37 #[.int .i64 0, .slice none 0 0]
  have f_pa0_4 := pa_4.at_ (i := 0) (u := .int .i64 K) rfl
  have f_pa1_4 := pa_4.at_ (i := 1) (u := .slice A n c) rfl
  go_wp2_with fail
  refine (many_bad (h.on k_4) HE.out HN.out).mono ?_
  rintro e w3 ⟨rfl, b3⟩
  clear f_pa0_4 f_pa1_4
  have pa_5 := pa_4.below b3 pa_4.lt
  have pb_5 := pb_4.below b3 pb_4.lt
  have px_5 := px_4.below b3 px_4.lt
  have py_5 := py_4.below b3 py_4.lt
  have k_5 := below_on k_4 b3
  have h3 := h.on k_5
  go_wp2_with fail
  go_region_held3 (fun w' => Below w3.heap.size w3 w' ∧ w'.cell? ⟨w.heap.size, 0, none⟩ = some (.int .i64 K) ∧ w'.cell? ⟨w.heap.size, 1, none⟩ = some (.slice A n c)) ((refine and_below ?_ fun hk => ⟨(hk.cell (p := ⟨w.heap.size, 0, none⟩) pa_5.lt).trans (pa_5.at_ (i := 0) rfl), (hk.cell (p := ⟨w.heap.size, 1, none⟩) pa_5.lt).trans (pa_5.at_ (i := 1) rfl)⟩; repeat' (first | assumption | with_reducible exact Below.refl _ _ | with_reducible apply Below.drew | with_reducible apply below_drewN | with_reducible apply below_alloc | with_reducible refine below_set ?_ ?_ _ | (simp only [World.size_alloc, World.heap_drewN]; omega) | (simp; omega))))
    (first
      | (go_at_call 20; refine (rbot_is (h3.on (by repeat' (first | assumption | with_reducible exact Below.refl _ _ | with_reducible apply Below.drew | with_reducible apply below_drewN | with_reducible apply below_alloc | with_reducible refine below_set ?_ ?_ _ | (simp only [World.size_alloc, World.heap_drewN]; omega) | (simp; omega)))) HE.out).mono ?_; rintro e w4 ⟨rfl, b4⟩; have k34 : Below w3.heap.size w3 w4 := below_on (by repeat' (first | assumption | with_reducible exact Below.refl _ _ | with_reducible apply Below.drew | with_reducible apply below_drewN | with_reducible apply below_alloc | with_reducible refine below_set ?_ ?_ _ | (simp only [World.size_alloc, World.heap_drewN]; omega) | (simp; omega))) b4))
  have pa_6 := pa_5.below k34 pa_5.lt
  have pb_6 := pb_5.below k34 pb_5.lt
  have px_6 := px_5.below k34 px_5.lt
  have py_6 := py_5.below k34 py_5.lt
  have k_6 := below_on k_5 k34
  have f_pa0_6 := pa_6.at_ (i := 0) (u := .int .i64 K) rfl
  have f_pa1_6 := pa_6.at_ (i := 1) (u := .slice A n c) rfl
  go_wp2_with fail
  refine (bcheck_is (h.on k_6) HE.out).mono ?_
  rintro e w5 ⟨rfl, b5⟩
  clear f_pa0_6 f_pa1_6
  have pa_7 := pa_6.below b5 pa_6.lt
  have pb_7 := pb_6.below b5 pb_6.lt
  have px_7 := px_6.below b5 px_6.lt
  have py_7 := py_6.below b5 py_6.lt
  have k_7 := below_on k_6 b5
  go_wp2_with fail
  refine (bcheck_is (K := 0) (A := none) (n := 0) (c := 0) (xs := []) (Sl.nil _ _ _) bot_zero).mono ?_
  rintro e w6 ⟨rfl, b6⟩
  have pa_8 := pa_7.below b6 pa_7.lt
  have pb_8 := pb_7.below b6 pb_7.lt
  have px_8 := px_7.below b6 px_7.lt
  have py_8 := py_7.below b6 py_7.lt
  have k_8 := below_on k_7 b6
  have f_px0_8 := px_8.at_ (i := 0) (u := .int .i64 0) rfl
  have f_px1_8 := px_8.at_ (i := 1) (u := .slice none 0 0) rfl
  go_wp2_with fail
  refine (sameb_yes (K := 0) (A := none) (n := 0) (c := 0) (xs := []) (Sl.nil _ _ _) (A2 := none) (c2 := 0) (Sl.nil _ _ _)).mono ?_
  rintro e w7 ⟨rfl, b7⟩
  clear f_px0_8 f_px1_8
  have pa_9 := pa_8.below b7 pa_8.lt
  have pb_9 := pb_8.below b7 pb_8.lt
  have px_9 := px_8.below b7 px_8.lt
  have py_9 := py_8.below b7 py_8.lt
  have k_9 := below_on k_8 b7
  have f_py0_9 := py_9.at_ (i := 0) (u := .int .i64 0) rfl
  have f_py1_9 := py_9.at_ (i := 1) (u := .slice none 0 0) rfl
  go_wp2_with fail
  refine (sameb_yes (K := 0) (A := none) (n := 0) (c := 0) (xs := []) (Sl.nil _ _ _) (A2 := none) (c2 := 0) (Sl.nil _ _ _)).mono ?_
  rintro e w8 ⟨rfl, b8⟩
  clear f_py0_9 f_py1_9
  have pa_10 := pa_9.below b8 pa_9.lt
  have pb_10 := pb_9.below b8 pb_9.lt
  have px_10 := px_9.below b8 px_9.lt
  have py_10 := py_9.below b8 py_9.lt
  have k_10 := below_on k_9 b8
  go_wp2_with fail
  go_ret
  exact ⟨rfl, k_10⟩
set_option maxRecDepth 100000 in
set_option maxHeartbeats 3200000 in
theorem law_bot_ok_true {k : Nat} (h : Si w A n c xs) (h2 : Si w A2 n2 c2 ys) (he : botErr (k : Int) n xs = 0) (he2 : botErr (k : Int) n2 ys = 0) (hd : isDraw x = true) :
    Calls Try.prog 4 #[.agg #[.int .i64 k, .slice A n c], .agg #[.int .i64 k, .slice A2 n2 c2], .int .i64 x] w fun e w' => e = .returned (.bool true) ∧ Below w.heap.size w w' := by
  obtain ⟨k1, k40, hnk, hup, hdr⟩ := botErr_ok h.ilen he
  obtain ⟨V, hV⟩ : ∃ V, guV (k : Int) n xs = V := ⟨_, rfl⟩
  obtain ⟨G, hG⟩ : ∃ G, guE (k : Int) n xs = G := ⟨_, rfl⟩
  have tv : (V != V) = false := by simp
  have tg : (G != G) = false := by simp
  have n40 : n ≤ 40 := by omega
  obtain ⟨q1, q40, hnk2, hup2, hdr2⟩ := botErr_ok h2.ilen he2
  have n240 : n2 ≤ 40 := by omega
  have HDD := hide (show ∀ z ∈ xs ++ ys, 0 ≤ z ∧ z ≤ 72057594037927935 from fun z hz => (List.mem_append.1 hz).elim (hdr z) (hdr2 z))
  obtain ⟨ZY, hZY⟩ : ∃ Z, putTo k xs ys n2 = Z := ⟨_, rfl⟩
  have HZY := hide (show (allU (xs ++ ys)).take k = ZY by rw [← hZY]; exact (join_is hup h.ilen h2.ilen (by omega)).symm)
  have CJ := hide (fun w (h : Si w A n c xs) (h2 : Si w A2 n2 c2 ys) => join_x h h2 he he2 hZY)
  obtain ⟨ZX, hZX⟩ : ∃ Z, (insU x xs).take k = Z := ⟨_, rfl⟩
  have HZX := hide (show (allU (xs ++ [x])).take k = ZX by rw [← hZX]; exact (put_is hup).symm)
  have HDX := hide (show ∀ z ∈ xs ++ [x], 0 ≤ z ∧ z ≤ 72057594037927935 from fun z hz => (List.mem_append.1 hz).elim (hdr z) (fun hz => by rw [List.mem_singleton] at hz; subst hz; exact of_decide_eq_true (show decide (0 ≤ z ∧ z ≤ 72057594037927935) = true from hd)))
  have CP := hide (fun w (h : Si w A n c xs) => put_x h he hd hZX)
  have CM := hide (fun w (h : Si w A n c xs) => many_ok h he hV hG)
  have CG := hide (fun w (h : Si w A n c xs) => guess_ok h he hV hG)
  have HE := hide he
  have HE2 := hide he2
  have HD := hide hd
  obtain ⟨pa_0, pb_0⟩ := twoBlk w (.int .i64 k) (.slice A n c) (.int .i64 k) (.slice A2 n2 c2) 37
  have k_0 : Below w.heap.size w ((w.alloc (.cells #[.int .i64 k, .slice A n c] 37)).alloc (.cells #[.int .i64 k, .slice A2 n2 c2] 37)) := by repeat' (first | assumption | with_reducible exact Below.refl _ _ | with_reducible apply Below.drew | with_reducible apply below_drewN | with_reducible apply below_alloc | with_reducible refine below_set ?_ ?_ _ | (simp only [World.size_alloc, World.heap_drewN]; omega) | (simp; omega))
  clear he he2 hd hV hG hup hdr hnk hup2 hdr2 hnk2 hZY hZX
  have f_pa0_0 := pa_0.at_ (i := 0) (u := .int .i64 k) rfl
  have f_pa1_0 := pa_0.at_ (i := 1) (u := .slice A n c) rfl
  go_enter Try.func4, Try.ntmps4
  go_wp2_with fail
  refine (CP.out _ (h.on k_0)).mono ?_
  rintro e w1 ⟨Ax, nx, cx, rfl, sx, b1⟩
  clear f_pa0_0 f_pa1_0
  have pa_1 := pa_0.below b1 pa_0.lt
  have pb_1 := pb_0.below b1 pb_0.lt
  have k_1 := below_on k_0 b1
  have pa_2 := pa_1.alloc (.cells #[.int .i64 k, .slice Ax nx cx] 37)
  have pb_2 := pb_1.alloc (.cells #[.int .i64 k, .slice Ax nx cx] 37)
  have sx_s2 := sx.on (below_alloc (Below.refl _ _) (.cells #[.int .i64 k, .slice Ax nx cx] 37))
  have k_2 := below_alloc k_1 (.cells #[.int .i64 k, .slice Ax nx cx] 37)
  have px_2 := Blk.new w1 37 #[.int .i64 k, .slice Ax nx cx]
  have f_pa0_2 := pa_2.at_ (i := 0) (u := .int .i64 k) rfl
  have f_pa1_2 := pa_2.at_ (i := 1) (u := .slice A n c) rfl
  have f_pb0_2 := pb_2.at_ (i := 0) (u := .int .i64 k) rfl
  have f_pb1_2 := pb_2.at_ (i := 1) (u := .slice A2 n2 c2) rfl
  go_wp2_with fail
  refine (CJ.out _ (h.on k_2) (h2.on k_2)).mono ?_
  rintro e w2 ⟨Ay, ny, cy, rfl, sy, b2⟩
  clear f_pa0_2 f_pa1_2 f_pb0_2 f_pb1_2
  have pa_3 := pa_2.below b2 pa_2.lt
  have pb_3 := pb_2.below b2 pb_2.lt
  have px_3 := px_2.below b2 px_2.lt
  have sx_s3 := sx_s2.on b2
  have k_3 := below_on k_2 b2
  have pa_4 := pa_3.alloc (.cells #[.int .i64 k, .slice Ay ny cy] 37)
  have pb_4 := pb_3.alloc (.cells #[.int .i64 k, .slice Ay ny cy] 37)
  have px_4 := px_3.alloc (.cells #[.int .i64 k, .slice Ay ny cy] 37)
  have sx_s4 := sx_s3.on (below_alloc (Below.refl _ _) (.cells #[.int .i64 k, .slice Ay ny cy] 37))
  have sy_s4 := sy.on (below_alloc (Below.refl _ _) (.cells #[.int .i64 k, .slice Ay ny cy] 37))
  have k_4 := below_alloc k_3 (.cells #[.int .i64 k, .slice Ay ny cy] 37)
  have py_4 := Blk.new w2 37 #[.int .i64 k, .slice Ay ny cy]
  have f_pa0_4 := pa_4.at_ (i := 0) (u := .int .i64 k) rfl
  have f_pa1_4 := pa_4.at_ (i := 1) (u := .slice A n c) rfl
  go_wp2_with fail
  refine (CM.out _ (h.on k_4)).mono ?_
  rintro e w3 ⟨rfl, b3⟩
  clear f_pa0_4 f_pa1_4
  have pa_5 := pa_4.below b3 pa_4.lt
  have pb_5 := pb_4.below b3 pb_4.lt
  have px_5 := px_4.below b3 px_4.lt
  have py_5 := py_4.below b3 py_4.lt
  have sx_s5 := sx_s4.on b3
  have sy_s5 := sy_s4.on b3
  have k_5 := below_on k_4 b3
  have h3 := h.on k_5
  go_wp2_with fail
  go_region_held3 (fun w' => Below w3.heap.size w3 w' ∧ w'.cell? ⟨w.heap.size, 0, none⟩ = some (.int .i64 k) ∧ w'.cell? ⟨w.heap.size, 1, none⟩ = some (.slice A n c)) ((refine and_below ?_ fun hk => ⟨(hk.cell (p := ⟨w.heap.size, 0, none⟩) pa_5.lt).trans (pa_5.at_ (i := 0) rfl), (hk.cell (p := ⟨w.heap.size, 1, none⟩) pa_5.lt).trans (pa_5.at_ (i := 1) rfl)⟩; repeat' (first | assumption | with_reducible exact Below.refl _ _ | with_reducible apply Below.drew | with_reducible apply below_drewN | with_reducible apply below_alloc | with_reducible refine below_set ?_ ?_ _ | (simp only [World.size_alloc, World.heap_drewN]; omega) | (simp; omega))))
    (first
      | (go_at_call 20; refine (rbot_is (h3.on (by repeat' (first | assumption | with_reducible exact Below.refl _ _ | with_reducible apply Below.drew | with_reducible apply below_drewN | with_reducible apply below_alloc | with_reducible refine below_set ?_ ?_ _ | (simp only [World.size_alloc, World.heap_drewN]; omega) | (simp; omega)))) HE.out).mono ?_; rintro e w4 ⟨rfl, b4⟩; have k34 : Below w3.heap.size w3 w4 := below_on (by repeat' (first | assumption | with_reducible exact Below.refl _ _ | with_reducible apply Below.drew | with_reducible apply below_drewN | with_reducible apply below_alloc | with_reducible refine below_set ?_ ?_ _ | (simp only [World.size_alloc, World.heap_drewN]; omega) | (simp; omega))) b4))
  have pa_6 := pa_5.below k34 pa_5.lt
  have pb_6 := pb_5.below k34 pb_5.lt
  have px_6 := px_5.below k34 px_5.lt
  have py_6 := py_5.below k34 py_5.lt
  have sx_s6 := sx_s5.on k34
  have sy_s6 := sy_s5.on k34
  have k_6 := below_on k_5 k34
  have f_pa0_6 := pa_6.at_ (i := 0) (u := .int .i64 k) rfl
  have f_pa1_6 := pa_6.at_ (i := 1) (u := .slice A n c) rfl
  go_wp2_with fail
  refine (bcheck_is (h.on k_6) HE.out).mono ?_
  rintro e w5 ⟨rfl, b5⟩
  clear f_pa0_6 f_pa1_6
  have pa_7 := pa_6.below b5 pa_6.lt
  have pb_7 := pb_6.below b5 pb_6.lt
  have px_7 := px_6.below b5 px_6.lt
  have py_7 := py_6.below b5 py_6.lt
  have sx_s7 := sx_s6.on b5
  have sy_s7 := sy_s6.on b5
  have k_7 := below_on k_6 b5
  go_wp2_with fail
  refine (bcheck_is (K := 0) (A := none) (n := 0) (c := 0) (xs := []) (Sl.nil _ _ _) bot_zero).mono ?_
  rintro e w6 ⟨rfl, b6⟩
  have pa_8 := pa_7.below b6 pa_7.lt
  have pb_8 := pb_7.below b6 pb_7.lt
  have px_8 := px_7.below b6 px_7.lt
  have py_8 := py_7.below b6 py_7.lt
  have sx_s8 := sx_s7.on b6
  have sy_s8 := sy_s7.on b6
  have k_8 := below_on k_7 b6
  have f_pa0_8 := pa_8.at_ (i := 0) (u := .int .i64 k) rfl
  have f_pa1_8 := pa_8.at_ (i := 1) (u := .slice A n c) rfl
  go_wp2_with fail
  refine (CG.out _ (h.on k_8)).mono ?_
  rintro e w7 ⟨rfl, b7⟩
  clear f_pa0_8 f_pa1_8
  have pa_9 := pa_8.below b7 pa_8.lt
  have pb_9 := pb_8.below b7 pb_8.lt
  have px_9 := px_8.below b7 px_8.lt
  have py_9 := py_8.below b7 py_8.lt
  have sx_s9 := sx_s8.on b7
  have sy_s9 := sy_s8.on b7
  have k_9 := below_on k_8 b7
  have f_pb0_9 := pb_9.at_ (i := 0) (u := .int .i64 k) rfl
  have f_pb1_9 := pb_9.at_ (i := 1) (u := .slice A2 n2 c2) rfl
  go_wp2_with fail
  refine (rbot_is (h2.on k_9) HE2.out).mono ?_
  rintro e w8 ⟨rfl, b8⟩
  clear f_pb0_9 f_pb1_9
  have pa_10 := pa_9.below b8 pa_9.lt
  have pb_10 := pb_9.below b8 pb_9.lt
  have px_10 := px_9.below b8 px_9.lt
  have py_10 := py_9.below b8 py_9.lt
  have sx_s10 := sx_s9.on b8
  have sy_s10 := sy_s9.on b8
  have k_10 := below_on k_9 b8
  have f_pa0_10 := pa_10.at_ (i := 0) (u := .int .i64 k) rfl
  have f_pa1_10 := pa_10.at_ (i := 1) (u := .slice A n c) rfl
  have f_pb0_10 := pb_10.at_ (i := 0) (u := .int .i64 k) rfl
  have f_pb1_10 := pb_10.at_ (i := 1) (u := .slice A2 n2 c2) rfl
  have tk : ((k : Int) != (k : Int)) = false := by simp
  have h8 := h.on k_10
  have g8 := h2.on k_10
  have sy8 := sy_s10
  have HNY := hide sy8.ilen
  go_upto_region 18 with fail
  clear f_pa0_10 f_pa1_10 f_pb0_10 f_pb1_10
  go_region_held3 (fun w' => Below w8.heap.size w8 w' ∧ w'.cell? ⟨w.heap.size, 0, none⟩ = some (.int .i64 k) ∧ w'.cell? ⟨w.heap.size, 1, none⟩ = some (.slice A n c) ∧ w'.cell? ⟨w.heap.size + 1, 0, none⟩ = some (.int .i64 k) ∧ w'.cell? ⟨w.heap.size + 1, 1, none⟩ = some (.slice A2 n2 c2) ∧ w'.cell? ⟨w2.heap.size, 0, none⟩ = some (.int .i64 k) ∧ w'.cell? ⟨w2.heap.size, 1, none⟩ = some (.slice Ay ny cy)) ((refine and_below ?_ fun hk => ⟨(hk.cell (p := ⟨w.heap.size, 0, none⟩) pa_10.lt).trans (pa_10.at_ (i := 0) rfl), (hk.cell (p := ⟨w.heap.size, 1, none⟩) pa_10.lt).trans (pa_10.at_ (i := 1) rfl), (hk.cell (p := ⟨w.heap.size + 1, 0, none⟩) pb_10.lt).trans (pb_10.at_ (i := 0) rfl), (hk.cell (p := ⟨w.heap.size + 1, 1, none⟩) pb_10.lt).trans (pb_10.at_ (i := 1) rfl), (hk.cell (p := ⟨w2.heap.size, 0, none⟩) py_10.lt).trans (py_10.at_ (i := 0) rfl), (hk.cell (p := ⟨w2.heap.size, 1, none⟩) py_10.lt).trans (py_10.at_ (i := 1) rfl)⟩; repeat' (first | assumption | with_reducible exact Below.refl _ _ | with_reducible apply Below.drew | with_reducible apply below_drewN | with_reducible apply below_alloc | with_reducible refine below_set ?_ ?_ _ | (simp only [World.size_alloc, World.heap_drewN]; omega) | (simp; omega))))
    (first
      | (go_at_call 25; refine (concat2 (by first | exact at_new _ _ | exact at_newd _ _) (h8.on (by repeat' (first | assumption | with_reducible exact Below.refl _ _ | with_reducible apply Below.drew | with_reducible apply below_drewN | with_reducible apply below_alloc | with_reducible refine below_set ?_ ?_ _ | (simp only [World.size_alloc, World.heap_drewN]; omega) | (simp; omega)))) (g8.on (by repeat' (first | assumption | with_reducible exact Below.refl _ _ | with_reducible apply Below.drew | with_reducible apply below_drewN | with_reducible apply below_alloc | with_reducible refine below_set ?_ ?_ _ | (simp only [World.size_alloc, World.heap_drewN]; omega) | (simp; omega)))) (by omega) (by omega)).mono ?_; rintro e w9 ⟨AC, cC, rfl, ownC, b9⟩; have kC : Below w8.heap.size w8 w9 := below_on (by repeat' (first | assumption | with_reducible exact Below.refl _ _ | with_reducible apply Below.drew | with_reducible apply below_drewN | with_reducible apply below_alloc | with_reducible refine below_set ?_ ?_ _ | (simp only [World.size_alloc, World.heap_drewN]; omega) | (simp; omega))) b9)
      | (go_at_call 24; refine (least_ok (k := k) (ownC.sl.on (by repeat' (first | assumption | with_reducible exact Below.refl _ _ | with_reducible apply Below.drew | with_reducible apply below_drewN | with_reducible apply below_alloc | with_reducible refine below_set ?_ ?_ _ | (simp only [World.size_alloc, World.heap_drewN]; omega) | (simp; omega)))) HDD.out (by omega) (by omega)).mono ?_; rintro e w10 ⟨AL, nL, cL, rfl, ownL, b10⟩; rw [HZY.out] at ownL; have hnL : nL = ny := ownL.sl.ilen.symm.trans HNY.out; subst hnL; have kL : Below w8.heap.size w8 w10 := below_on (by repeat' (first | assumption | with_reducible exact Below.refl _ _ | with_reducible apply Below.drew | with_reducible apply below_drewN | with_reducible apply below_alloc | with_reducible refine below_set ?_ ?_ _ | (simp only [World.size_alloc, World.heap_drewN]; omega) | (simp; omega))) b10)
      | (go_at_call 22; refine (sameb_yes (K := (k : Int)) (sy8.on (by repeat' (first | assumption | with_reducible exact Below.refl _ _ | with_reducible apply Below.drew | with_reducible apply below_drewN | with_reducible apply below_alloc | with_reducible refine below_set ?_ ?_ _ | (simp only [World.size_alloc, World.heap_drewN]; omega) | (simp; omega)))) (ownL.sl.on (by repeat' (first | assumption | with_reducible exact Below.refl _ _ | with_reducible apply Below.drew | with_reducible apply below_drewN | with_reducible apply below_alloc | with_reducible refine below_set ?_ ?_ _ | (simp only [World.size_alloc, World.heap_drewN]; omega) | (simp; omega))))).mono ?_; rintro e w11 ⟨rfl, b11⟩; have kS : Below w8.heap.size w8 w11 := below_on (by repeat' (first | assumption | with_reducible exact Below.refl _ _ | with_reducible apply Below.drew | with_reducible apply below_drewN | with_reducible apply below_alloc | with_reducible refine below_set ?_ ?_ _ | (simp only [World.size_alloc, World.heap_drewN]; omega) | (simp; omega))) b11))
  have pa_11 := pa_10.below kS pa_10.lt
  have pb_11 := pb_10.below kS pb_10.lt
  have px_11 := px_10.below kS px_10.lt
  have py_11 := py_10.below kS py_10.lt
  have sx_s11 := sx_s10.on kS
  have sy_s11 := sy_s10.on kS
  have k_11 := below_on k_10 kS
  go_wp2_with fail
  refine (draw_is x _ HD.out).mono ?_
  rintro e w' ⟨rfl, rfl⟩
  have h9 := h.on k_11
  have sx9 := sx_s11
  have HNX := hide sx9.ilen
  go_upto_region 22 with fail
  go_region_held3 (fun w' => Below w11.heap.size w11 w' ∧ w'.cell? ⟨w.heap.size, 0, none⟩ = some (.int .i64 k) ∧ w'.cell? ⟨w.heap.size, 1, none⟩ = some (.slice A n c) ∧ w'.cell? ⟨w1.heap.size, 0, none⟩ = some (.int .i64 k) ∧ w'.cell? ⟨w1.heap.size, 1, none⟩ = some (.slice Ax nx cx)) ((refine and_below ?_ fun hk => ⟨(hk.cell (p := ⟨w.heap.size, 0, none⟩) pa_11.lt).trans (pa_11.at_ (i := 0) rfl), (hk.cell (p := ⟨w.heap.size, 1, none⟩) pa_11.lt).trans (pa_11.at_ (i := 1) rfl), (hk.cell (p := ⟨w1.heap.size, 0, none⟩) px_11.lt).trans (px_11.at_ (i := 0) rfl), (hk.cell (p := ⟨w1.heap.size, 1, none⟩) px_11.lt).trans (px_11.at_ (i := 1) rfl)⟩; repeat' (first | assumption | with_reducible exact Below.refl _ _ | with_reducible apply Below.drew | with_reducible apply below_drewN | with_reducible apply below_alloc | with_reducible refine below_set ?_ ?_ _ | (simp only [World.size_alloc, World.heap_drewN]; omega) | (simp; omega))))
    (first
      | (go_at_call 14; refine (clone_ints A n c xs _ (h9.on (by repeat' (first | assumption | with_reducible exact Below.refl _ _ | with_reducible apply Below.drew | with_reducible apply below_drewN | with_reducible apply below_alloc | with_reducible refine below_set ?_ ?_ _ | (simp only [World.size_alloc, World.heap_drewN]; omega) | (simp; omega)))) (by omega)).mono ?_; rintro e w13 ⟨v, rfl, hb1, AC, cC, rfl, hown⟩; have hw1 : Below w11.heap.size w11 w13 := below_on (by repeat' (first | assumption | with_reducible exact Below.refl _ _ | with_reducible apply Below.drew | with_reducible apply below_drewN | with_reducible apply below_alloc | with_reducible refine below_set ?_ ?_ _ | (simp only [World.size_alloc, World.heap_drewN]; omega) | (simp; omega))) hb1; have hown0 : Own w13 w11.heap.size 3 1 AC n cC (ints xs) := hown.mono (by simp))
      | (refine step_append_g T_int (base := w11.heap.size) (B := w13.heap.size + 1) (xs := ints xs) (news := [.int .i64 x]) (by first | rfl | kernel_rfl) _ _ (by rfl) (by rfl) (by rfl) ?_ ?_ (ints_one [x]) ?_ ?_ ?_ ?_; (first | with_reducible exact hown0 | with_reducible exact hown0.alloc _); (first | with_reducible exact Sl.new _ _ 1 1 [.int .i64 x] (by simp [maxLen]) rfl | exact (Sl.new _ _ 1 1 [.int .i64 x] (by simp [maxLen]) rfl).drew.upd hb1 (by simp) (Nat.succ_le_succ hw1.size)); (simp only [maxLen]; omega); omega; (first | exact hw1.size | exact (below_alloc hw1 _).size); intro AN cN w14 ap; have hw2 : Below w11.heap.size w11 w14 := (by first | with_reducible exact hw1.trans ap.below | with_reducible exact (below_alloc hw1 _).trans ap.below); have sN : Si w14 AN (n + 1) cN (xs ++ [x]) := (by show Sl w14 w14.heap.size 1 AN (n + 1) cN (ints (xs ++ [x])); rw [ints_append]; exact ap.own.sl))
      | (go_at_call 24; refine (least_ok (k := k) (sN.on (by repeat' (first | assumption | with_reducible exact Below.refl _ _ | with_reducible apply Below.drew | with_reducible apply below_drewN | with_reducible apply below_alloc | with_reducible refine below_set ?_ ?_ _ | (simp only [World.size_alloc, World.heap_drewN]; omega) | (simp; omega)))) HDX.out (by omega) (by omega)).mono ?_; rintro e w15 ⟨AL2, nL2, cL2, rfl, ownL2, b15⟩; rw [HZX.out] at ownL2; have hnL2 : nL2 = nx := ownL2.sl.ilen.symm.trans HNX.out; subst hnL2; have kL2 : Below w11.heap.size w11 w15 := below_on (by repeat' (first | assumption | with_reducible exact Below.refl _ _ | with_reducible apply Below.drew | with_reducible apply below_drewN | with_reducible apply below_alloc | with_reducible refine below_set ?_ ?_ _ | (simp only [World.size_alloc, World.heap_drewN]; omega) | (simp; omega))) b15)
      | (go_at_call 22; refine (sameb_yes (K := (k : Int)) (sx9.on (by repeat' (first | assumption | with_reducible exact Below.refl _ _ | with_reducible apply Below.drew | with_reducible apply below_drewN | with_reducible apply below_alloc | with_reducible refine below_set ?_ ?_ _ | (simp only [World.size_alloc, World.heap_drewN]; omega) | (simp; omega)))) (ownL2.sl.on (by repeat' (first | assumption | with_reducible exact Below.refl _ _ | with_reducible apply Below.drew | with_reducible apply below_drewN | with_reducible apply below_alloc | with_reducible refine below_set ?_ ?_ _ | (simp only [World.size_alloc, World.heap_drewN]; omega) | (simp; omega))))).mono ?_; rintro e w16 ⟨rfl, b16⟩; have kS2 : Below w11.heap.size w11 w16 := below_on (by repeat' (first | assumption | with_reducible exact Below.refl _ _ | with_reducible apply Below.drew | with_reducible apply below_drewN | with_reducible apply below_alloc | with_reducible refine below_set ?_ ?_ _ | (simp only [World.size_alloc, World.heap_drewN]; omega) | (simp; omega))) b16))
  all_goals go_wp2_with fail
  all_goals (go_ret; exact ⟨rfl, below_on k_11 kS2⟩)
set_option maxRecDepth 100000 in
set_option maxHeartbeats 3200000 in
theorem law_bot_ok_false {k : Nat} (h : Si w A n c xs) (h2 : Si w A2 n2 c2 ys) (he : botErr (k : Int) n xs = 0) (he2 : botErr (k : Int) n2 ys = 0) (hd : isDraw x = false) :
    Calls Try.prog 4 #[.agg #[.int .i64 k, .slice A n c], .agg #[.int .i64 k, .slice A2 n2 c2], .int .i64 x] w fun e w' => e = .returned (.bool true) ∧ Below w.heap.size w w' := by
  obtain ⟨k1, k40, hnk, hup, hdr⟩ := botErr_ok h.ilen he
  obtain ⟨V, hV⟩ : ∃ V, guV (k : Int) n xs = V := ⟨_, rfl⟩
  obtain ⟨G, hG⟩ : ∃ G, guE (k : Int) n xs = G := ⟨_, rfl⟩
  have tv : (V != V) = false := by simp
  have tg : (G != G) = false := by simp
  have n40 : n ≤ 40 := by omega
  obtain ⟨q1, q40, hnk2, hup2, hdr2⟩ := botErr_ok h2.ilen he2
  have n240 : n2 ≤ 40 := by omega
  have HDD := hide (show ∀ z ∈ xs ++ ys, 0 ≤ z ∧ z ≤ 72057594037927935 from fun z hz => (List.mem_append.1 hz).elim (hdr z) (hdr2 z))
  obtain ⟨ZY, hZY⟩ : ∃ Z, putTo k xs ys n2 = Z := ⟨_, rfl⟩
  have HZY := hide (show (allU (xs ++ ys)).take k = ZY by rw [← hZY]; exact (join_is hup h.ilen h2.ilen (by omega)).symm)
  have CJ := hide (fun w (h : Si w A n c xs) (h2 : Si w A2 n2 c2 ys) => join_x h h2 he he2 hZY)
  have CP := hide (fun w (h : Si w A n c xs) => put_y h he hd)
  have CM := hide (fun w (h : Si w A n c xs) => many_ok h he hV hG)
  have CG := hide (fun w (h : Si w A n c xs) => guess_ok h he hV hG)
  have HE := hide he
  have HE2 := hide he2
  have HD := hide hd
  obtain ⟨pa_0, pb_0⟩ := twoBlk w (.int .i64 k) (.slice A n c) (.int .i64 k) (.slice A2 n2 c2) 37
  have k_0 : Below w.heap.size w ((w.alloc (.cells #[.int .i64 k, .slice A n c] 37)).alloc (.cells #[.int .i64 k, .slice A2 n2 c2] 37)) := by repeat' (first | assumption | with_reducible exact Below.refl _ _ | with_reducible apply Below.drew | with_reducible apply below_drewN | with_reducible apply below_alloc | with_reducible refine below_set ?_ ?_ _ | (simp only [World.size_alloc, World.heap_drewN]; omega) | (simp; omega))
  clear he he2 hd hV hG hup hdr hnk hup2 hdr2 hnk2 hZY
  have f_pa0_0 := pa_0.at_ (i := 0) (u := .int .i64 k) rfl
  have f_pa1_0 := pa_0.at_ (i := 1) (u := .slice A n c) rfl
  go_enter Try.func4, Try.ntmps4
  go_wp2_with fail
  refine (CP.out _ (h.on k_0)).mono ?_
  rintro e w1 ⟨Ax, nx, cx, rfl, sx, b1⟩
  clear f_pa0_0 f_pa1_0
  have pa_1 := pa_0.below b1 pa_0.lt
  have pb_1 := pb_0.below b1 pb_0.lt
  have k_1 := below_on k_0 b1
  have pa_2 := pa_1.alloc (.cells #[.int .i64 0, .slice Ax nx cx] 37)
  have pb_2 := pb_1.alloc (.cells #[.int .i64 0, .slice Ax nx cx] 37)
  have sx_s2 := sx.on (below_alloc (Below.refl _ _) (.cells #[.int .i64 0, .slice Ax nx cx] 37))
  have k_2 := below_alloc k_1 (.cells #[.int .i64 0, .slice Ax nx cx] 37)
  have px_2 := Blk.new w1 37 #[.int .i64 0, .slice Ax nx cx]
  have f_pa0_2 := pa_2.at_ (i := 0) (u := .int .i64 k) rfl
  have f_pa1_2 := pa_2.at_ (i := 1) (u := .slice A n c) rfl
  have f_pb0_2 := pb_2.at_ (i := 0) (u := .int .i64 k) rfl
  have f_pb1_2 := pb_2.at_ (i := 1) (u := .slice A2 n2 c2) rfl
  go_wp2_with fail
  refine (CJ.out _ (h.on k_2) (h2.on k_2)).mono ?_
  rintro e w2 ⟨Ay, ny, cy, rfl, sy, b2⟩
  clear f_pa0_2 f_pa1_2 f_pb0_2 f_pb1_2
  have pa_3 := pa_2.below b2 pa_2.lt
  have pb_3 := pb_2.below b2 pb_2.lt
  have px_3 := px_2.below b2 px_2.lt
  have sx_s3 := sx_s2.on b2
  have k_3 := below_on k_2 b2
  have pa_4 := pa_3.alloc (.cells #[.int .i64 k, .slice Ay ny cy] 37)
  have pb_4 := pb_3.alloc (.cells #[.int .i64 k, .slice Ay ny cy] 37)
  have px_4 := px_3.alloc (.cells #[.int .i64 k, .slice Ay ny cy] 37)
  have sx_s4 := sx_s3.on (below_alloc (Below.refl _ _) (.cells #[.int .i64 k, .slice Ay ny cy] 37))
  have sy_s4 := sy.on (below_alloc (Below.refl _ _) (.cells #[.int .i64 k, .slice Ay ny cy] 37))
  have k_4 := below_alloc k_3 (.cells #[.int .i64 k, .slice Ay ny cy] 37)
  have py_4 := Blk.new w2 37 #[.int .i64 k, .slice Ay ny cy]
  have f_pa0_4 := pa_4.at_ (i := 0) (u := .int .i64 k) rfl
  have f_pa1_4 := pa_4.at_ (i := 1) (u := .slice A n c) rfl
  go_wp2_with fail
  refine (CM.out _ (h.on k_4)).mono ?_
  rintro e w3 ⟨rfl, b3⟩
  clear f_pa0_4 f_pa1_4
  have pa_5 := pa_4.below b3 pa_4.lt
  have pb_5 := pb_4.below b3 pb_4.lt
  have px_5 := px_4.below b3 px_4.lt
  have py_5 := py_4.below b3 py_4.lt
  have sx_s5 := sx_s4.on b3
  have sy_s5 := sy_s4.on b3
  have k_5 := below_on k_4 b3
  have h3 := h.on k_5
  go_wp2_with fail
  go_region_held3 (fun w' => Below w3.heap.size w3 w' ∧ w'.cell? ⟨w.heap.size, 0, none⟩ = some (.int .i64 k) ∧ w'.cell? ⟨w.heap.size, 1, none⟩ = some (.slice A n c)) ((refine and_below ?_ fun hk => ⟨(hk.cell (p := ⟨w.heap.size, 0, none⟩) pa_5.lt).trans (pa_5.at_ (i := 0) rfl), (hk.cell (p := ⟨w.heap.size, 1, none⟩) pa_5.lt).trans (pa_5.at_ (i := 1) rfl)⟩; repeat' (first | assumption | with_reducible exact Below.refl _ _ | with_reducible apply Below.drew | with_reducible apply below_drewN | with_reducible apply below_alloc | with_reducible refine below_set ?_ ?_ _ | (simp only [World.size_alloc, World.heap_drewN]; omega) | (simp; omega))))
    (first
      | (go_at_call 20; refine (rbot_is (h3.on (by repeat' (first | assumption | with_reducible exact Below.refl _ _ | with_reducible apply Below.drew | with_reducible apply below_drewN | with_reducible apply below_alloc | with_reducible refine below_set ?_ ?_ _ | (simp only [World.size_alloc, World.heap_drewN]; omega) | (simp; omega)))) HE.out).mono ?_; rintro e w4 ⟨rfl, b4⟩; have k34 : Below w3.heap.size w3 w4 := below_on (by repeat' (first | assumption | with_reducible exact Below.refl _ _ | with_reducible apply Below.drew | with_reducible apply below_drewN | with_reducible apply below_alloc | with_reducible refine below_set ?_ ?_ _ | (simp only [World.size_alloc, World.heap_drewN]; omega) | (simp; omega))) b4))
  have pa_6 := pa_5.below k34 pa_5.lt
  have pb_6 := pb_5.below k34 pb_5.lt
  have px_6 := px_5.below k34 px_5.lt
  have py_6 := py_5.below k34 py_5.lt
  have sx_s6 := sx_s5.on k34
  have sy_s6 := sy_s5.on k34
  have k_6 := below_on k_5 k34
  have f_pa0_6 := pa_6.at_ (i := 0) (u := .int .i64 k) rfl
  have f_pa1_6 := pa_6.at_ (i := 1) (u := .slice A n c) rfl
  go_wp2_with fail
  refine (bcheck_is (h.on k_6) HE.out).mono ?_
  rintro e w5 ⟨rfl, b5⟩
  clear f_pa0_6 f_pa1_6
  have pa_7 := pa_6.below b5 pa_6.lt
  have pb_7 := pb_6.below b5 pb_6.lt
  have px_7 := px_6.below b5 px_6.lt
  have py_7 := py_6.below b5 py_6.lt
  have sx_s7 := sx_s6.on b5
  have sy_s7 := sy_s6.on b5
  have k_7 := below_on k_6 b5
  go_wp2_with fail
  refine (bcheck_is (K := 0) (A := none) (n := 0) (c := 0) (xs := []) (Sl.nil _ _ _) bot_zero).mono ?_
  rintro e w6 ⟨rfl, b6⟩
  have pa_8 := pa_7.below b6 pa_7.lt
  have pb_8 := pb_7.below b6 pb_7.lt
  have px_8 := px_7.below b6 px_7.lt
  have py_8 := py_7.below b6 py_7.lt
  have sx_s8 := sx_s7.on b6
  have sy_s8 := sy_s7.on b6
  have k_8 := below_on k_7 b6
  have f_pa0_8 := pa_8.at_ (i := 0) (u := .int .i64 k) rfl
  have f_pa1_8 := pa_8.at_ (i := 1) (u := .slice A n c) rfl
  go_wp2_with fail
  refine (CG.out _ (h.on k_8)).mono ?_
  rintro e w7 ⟨rfl, b7⟩
  clear f_pa0_8 f_pa1_8
  have pa_9 := pa_8.below b7 pa_8.lt
  have pb_9 := pb_8.below b7 pb_8.lt
  have px_9 := px_8.below b7 px_8.lt
  have py_9 := py_8.below b7 py_8.lt
  have sx_s9 := sx_s8.on b7
  have sy_s9 := sy_s8.on b7
  have k_9 := below_on k_8 b7
  have f_pb0_9 := pb_9.at_ (i := 0) (u := .int .i64 k) rfl
  have f_pb1_9 := pb_9.at_ (i := 1) (u := .slice A2 n2 c2) rfl
  go_wp2_with fail
  refine (rbot_is (h2.on k_9) HE2.out).mono ?_
  rintro e w8 ⟨rfl, b8⟩
  clear f_pb0_9 f_pb1_9
  have pa_10 := pa_9.below b8 pa_9.lt
  have pb_10 := pb_9.below b8 pb_9.lt
  have px_10 := px_9.below b8 px_9.lt
  have py_10 := py_9.below b8 py_9.lt
  have sx_s10 := sx_s9.on b8
  have sy_s10 := sy_s9.on b8
  have k_10 := below_on k_9 b8
  have f_pa0_10 := pa_10.at_ (i := 0) (u := .int .i64 k) rfl
  have f_pa1_10 := pa_10.at_ (i := 1) (u := .slice A n c) rfl
  have f_pb0_10 := pb_10.at_ (i := 0) (u := .int .i64 k) rfl
  have f_pb1_10 := pb_10.at_ (i := 1) (u := .slice A2 n2 c2) rfl
  have tk : ((k : Int) != (k : Int)) = false := by simp
  have h8 := h.on k_10
  have g8 := h2.on k_10
  have sy8 := sy_s10
  have HNY := hide sy8.ilen
  go_upto_region 18 with fail
  clear f_pa0_10 f_pa1_10 f_pb0_10 f_pb1_10
  go_region_held3 (fun w' => Below w8.heap.size w8 w' ∧ w'.cell? ⟨w.heap.size, 0, none⟩ = some (.int .i64 k) ∧ w'.cell? ⟨w.heap.size, 1, none⟩ = some (.slice A n c) ∧ w'.cell? ⟨w.heap.size + 1, 0, none⟩ = some (.int .i64 k) ∧ w'.cell? ⟨w.heap.size + 1, 1, none⟩ = some (.slice A2 n2 c2) ∧ w'.cell? ⟨w2.heap.size, 0, none⟩ = some (.int .i64 k) ∧ w'.cell? ⟨w2.heap.size, 1, none⟩ = some (.slice Ay ny cy)) ((refine and_below ?_ fun hk => ⟨(hk.cell (p := ⟨w.heap.size, 0, none⟩) pa_10.lt).trans (pa_10.at_ (i := 0) rfl), (hk.cell (p := ⟨w.heap.size, 1, none⟩) pa_10.lt).trans (pa_10.at_ (i := 1) rfl), (hk.cell (p := ⟨w.heap.size + 1, 0, none⟩) pb_10.lt).trans (pb_10.at_ (i := 0) rfl), (hk.cell (p := ⟨w.heap.size + 1, 1, none⟩) pb_10.lt).trans (pb_10.at_ (i := 1) rfl), (hk.cell (p := ⟨w2.heap.size, 0, none⟩) py_10.lt).trans (py_10.at_ (i := 0) rfl), (hk.cell (p := ⟨w2.heap.size, 1, none⟩) py_10.lt).trans (py_10.at_ (i := 1) rfl)⟩; repeat' (first | assumption | with_reducible exact Below.refl _ _ | with_reducible apply Below.drew | with_reducible apply below_drewN | with_reducible apply below_alloc | with_reducible refine below_set ?_ ?_ _ | (simp only [World.size_alloc, World.heap_drewN]; omega) | (simp; omega))))
    (first
      | (go_at_call 25; refine (concat2 (by first | exact at_new _ _ | exact at_newd _ _) (h8.on (by repeat' (first | assumption | with_reducible exact Below.refl _ _ | with_reducible apply Below.drew | with_reducible apply below_drewN | with_reducible apply below_alloc | with_reducible refine below_set ?_ ?_ _ | (simp only [World.size_alloc, World.heap_drewN]; omega) | (simp; omega)))) (g8.on (by repeat' (first | assumption | with_reducible exact Below.refl _ _ | with_reducible apply Below.drew | with_reducible apply below_drewN | with_reducible apply below_alloc | with_reducible refine below_set ?_ ?_ _ | (simp only [World.size_alloc, World.heap_drewN]; omega) | (simp; omega)))) (by omega) (by omega)).mono ?_; rintro e w9 ⟨AC, cC, rfl, ownC, b9⟩; have kC : Below w8.heap.size w8 w9 := below_on (by repeat' (first | assumption | with_reducible exact Below.refl _ _ | with_reducible apply Below.drew | with_reducible apply below_drewN | with_reducible apply below_alloc | with_reducible refine below_set ?_ ?_ _ | (simp only [World.size_alloc, World.heap_drewN]; omega) | (simp; omega))) b9)
      | (go_at_call 24; refine (least_ok (k := k) (ownC.sl.on (by repeat' (first | assumption | with_reducible exact Below.refl _ _ | with_reducible apply Below.drew | with_reducible apply below_drewN | with_reducible apply below_alloc | with_reducible refine below_set ?_ ?_ _ | (simp only [World.size_alloc, World.heap_drewN]; omega) | (simp; omega)))) HDD.out (by omega) (by omega)).mono ?_; rintro e w10 ⟨AL, nL, cL, rfl, ownL, b10⟩; rw [HZY.out] at ownL; have hnL : nL = ny := ownL.sl.ilen.symm.trans HNY.out; subst hnL; have kL : Below w8.heap.size w8 w10 := below_on (by repeat' (first | assumption | with_reducible exact Below.refl _ _ | with_reducible apply Below.drew | with_reducible apply below_drewN | with_reducible apply below_alloc | with_reducible refine below_set ?_ ?_ _ | (simp only [World.size_alloc, World.heap_drewN]; omega) | (simp; omega))) b10)
      | (go_at_call 22; refine (sameb_yes (K := (k : Int)) (sy8.on (by repeat' (first | assumption | with_reducible exact Below.refl _ _ | with_reducible apply Below.drew | with_reducible apply below_drewN | with_reducible apply below_alloc | with_reducible refine below_set ?_ ?_ _ | (simp only [World.size_alloc, World.heap_drewN]; omega) | (simp; omega)))) (ownL.sl.on (by repeat' (first | assumption | with_reducible exact Below.refl _ _ | with_reducible apply Below.drew | with_reducible apply below_drewN | with_reducible apply below_alloc | with_reducible refine below_set ?_ ?_ _ | (simp only [World.size_alloc, World.heap_drewN]; omega) | (simp; omega))))).mono ?_; rintro e w11 ⟨rfl, b11⟩; have kS : Below w8.heap.size w8 w11 := below_on (by repeat' (first | assumption | with_reducible exact Below.refl _ _ | with_reducible apply Below.drew | with_reducible apply below_drewN | with_reducible apply below_alloc | with_reducible refine below_set ?_ ?_ _ | (simp only [World.size_alloc, World.heap_drewN]; omega) | (simp; omega))) b11))
  have pa_11 := pa_10.below kS pa_10.lt
  have pb_11 := pb_10.below kS pb_10.lt
  have px_11 := px_10.below kS px_10.lt
  have py_11 := py_10.below kS py_10.lt
  have sx_s11 := sx_s10.on kS
  have sy_s11 := sy_s10.on kS
  have k_11 := below_on k_10 kS
  go_wp2_with fail
  refine (draw_is x _ HD.out).mono ?_
  rintro e w' ⟨rfl, rfl⟩
  have f_px0_11 := px_11.at_ (i := 0) (u := .int .i64 0) rfl
  have f_px1_11 := px_11.at_ (i := 1) (u := .slice Ax nx cx) rfl
  go_wp2_with fail
  refine (same_nil sx_s11).mono ?_
  rintro e w12 ⟨rfl, b12⟩
  clear f_px0_11 f_px1_11
  have pa_12 := pa_11.below b12 pa_11.lt
  have pb_12 := pb_11.below b12 pb_11.lt
  have px_12 := px_11.below b12 px_11.lt
  have py_12 := py_11.below b12 py_11.lt
  have sx_s12 := sx_s11.on b12
  have sy_s12 := sy_s11.on b12
  have k_12 := below_on k_11 b12
  go_wp2_with fail
  go_ret
  exact ⟨rfl, k_12⟩
set_option maxRecDepth 100000 in
set_option maxHeartbeats 3200000 in
theorem law_bot_bad_true {k : Nat} (h : Si w A n c xs) (h2 : Si w A2 n2 c2 ys) (he : botErr (k : Int) n xs = 0) {EB : Int} (he2 : botErr K2 n2 ys = EB) (hb0 : ¬ EB = 0) (hd : isDraw x = true) :
    Calls Try.prog 4 #[.agg #[.int .i64 k, .slice A n c], .agg #[.int .i64 K2, .slice A2 n2 c2], .int .i64 x] w fun e w' => e = .returned (.bool true) ∧ Below w.heap.size w w' := by
  obtain ⟨k1, k40, hnk, hup, hdr⟩ := botErr_ok h.ilen he
  obtain ⟨V, hV⟩ : ∃ V, guV (k : Int) n xs = V := ⟨_, rfl⟩
  obtain ⟨G, hG⟩ : ∃ G, guE (k : Int) n xs = G := ⟨_, rfl⟩
  have tv : (V != V) = false := by simp
  have tg : (G != G) = false := by simp
  have n40 : n ≤ 40 := by omega
  have hj : jnErr (k : Int) n xs K2 n2 ys = EB := by unfold jnErr; rw [if_pos he, he2, if_neg hb0]
  have CJ := hide (fun w (h : Si w A n c xs) (h2 : Si w A2 n2 c2 ys) => join_y h h2 hj hb0)
  have t1 : (EB != 0) = true := by simpa using hb0
  have t2 : (EB == 0) = false := by simpa using hb0
  have t3 : (EB != EB) = false := by simp
  obtain ⟨ZX, hZX⟩ : ∃ Z, (insU x xs).take k = Z := ⟨_, rfl⟩
  have HZX := hide (show (allU (xs ++ [x])).take k = ZX by rw [← hZX]; exact (put_is hup).symm)
  have HDX := hide (show ∀ z ∈ xs ++ [x], 0 ≤ z ∧ z ≤ 72057594037927935 from fun z hz => (List.mem_append.1 hz).elim (hdr z) (fun hz => by rw [List.mem_singleton] at hz; subst hz; exact of_decide_eq_true (show decide (0 ≤ z ∧ z ≤ 72057594037927935) = true from hd)))
  have CP := hide (fun w (h : Si w A n c xs) => put_x h he hd hZX)
  have CM := hide (fun w (h : Si w A n c xs) => many_ok h he hV hG)
  have CG := hide (fun w (h : Si w A n c xs) => guess_ok h he hV hG)
  have HE := hide he
  have HE2 := hide he2
  have HD := hide hd
  obtain ⟨pa_0, pb_0⟩ := twoBlk w (.int .i64 k) (.slice A n c) (.int .i64 K2) (.slice A2 n2 c2) 37
  have k_0 : Below w.heap.size w ((w.alloc (.cells #[.int .i64 k, .slice A n c] 37)).alloc (.cells #[.int .i64 K2, .slice A2 n2 c2] 37)) := by repeat' (first | assumption | with_reducible exact Below.refl _ _ | with_reducible apply Below.drew | with_reducible apply below_drewN | with_reducible apply below_alloc | with_reducible refine below_set ?_ ?_ _ | (simp only [World.size_alloc, World.heap_drewN]; omega) | (simp; omega))
  clear he he2 hd hV hG hup hdr hnk hj hZX hb0
  have f_pa0_0 := pa_0.at_ (i := 0) (u := .int .i64 k) rfl
  have f_pa1_0 := pa_0.at_ (i := 1) (u := .slice A n c) rfl
  go_enter Try.func4, Try.ntmps4
  go_wp2_with fail
  refine (CP.out _ (h.on k_0)).mono ?_
  rintro e w1 ⟨Ax, nx, cx, rfl, sx, b1⟩
  clear f_pa0_0 f_pa1_0
  have pa_1 := pa_0.below b1 pa_0.lt
  have pb_1 := pb_0.below b1 pb_0.lt
  have k_1 := below_on k_0 b1
  have pa_2 := pa_1.alloc (.cells #[.int .i64 k, .slice Ax nx cx] 37)
  have pb_2 := pb_1.alloc (.cells #[.int .i64 k, .slice Ax nx cx] 37)
  have sx_s2 := sx.on (below_alloc (Below.refl _ _) (.cells #[.int .i64 k, .slice Ax nx cx] 37))
  have k_2 := below_alloc k_1 (.cells #[.int .i64 k, .slice Ax nx cx] 37)
  have px_2 := Blk.new w1 37 #[.int .i64 k, .slice Ax nx cx]
  have f_pa0_2 := pa_2.at_ (i := 0) (u := .int .i64 k) rfl
  have f_pa1_2 := pa_2.at_ (i := 1) (u := .slice A n c) rfl
  have f_pb0_2 := pb_2.at_ (i := 0) (u := .int .i64 K2) rfl
  have f_pb1_2 := pb_2.at_ (i := 1) (u := .slice A2 n2 c2) rfl
  go_wp2_with fail
  refine (CJ.out _ (h.on k_2) (h2.on k_2)).mono ?_
  rintro e w2 ⟨Ay, ny, cy, rfl, sy, b2⟩
  clear f_pa0_2 f_pa1_2 f_pb0_2 f_pb1_2
  have pa_3 := pa_2.below b2 pa_2.lt
  have pb_3 := pb_2.below b2 pb_2.lt
  have px_3 := px_2.below b2 px_2.lt
  have sx_s3 := sx_s2.on b2
  have k_3 := below_on k_2 b2
  have pa_4 := pa_3.alloc (.cells #[.int .i64 0, .slice Ay ny cy] 37)
  have pb_4 := pb_3.alloc (.cells #[.int .i64 0, .slice Ay ny cy] 37)
  have px_4 := px_3.alloc (.cells #[.int .i64 0, .slice Ay ny cy] 37)
  have sx_s4 := sx_s3.on (below_alloc (Below.refl _ _) (.cells #[.int .i64 0, .slice Ay ny cy] 37))
  have sy_s4 := sy.on (below_alloc (Below.refl _ _) (.cells #[.int .i64 0, .slice Ay ny cy] 37))
  have k_4 := below_alloc k_3 (.cells #[.int .i64 0, .slice Ay ny cy] 37)
  have py_4 := Blk.new w2 37 #[.int .i64 0, .slice Ay ny cy]
  have f_pa0_4 := pa_4.at_ (i := 0) (u := .int .i64 k) rfl
  have f_pa1_4 := pa_4.at_ (i := 1) (u := .slice A n c) rfl
  go_wp2_with fail
  refine (CM.out _ (h.on k_4)).mono ?_
  rintro e w3 ⟨rfl, b3⟩
  clear f_pa0_4 f_pa1_4
  have pa_5 := pa_4.below b3 pa_4.lt
  have pb_5 := pb_4.below b3 pb_4.lt
  have px_5 := px_4.below b3 px_4.lt
  have py_5 := py_4.below b3 py_4.lt
  have sx_s5 := sx_s4.on b3
  have sy_s5 := sy_s4.on b3
  have k_5 := below_on k_4 b3
  have h3 := h.on k_5
  go_wp2_with fail
  go_region_held3 (fun w' => Below w3.heap.size w3 w' ∧ w'.cell? ⟨w.heap.size, 0, none⟩ = some (.int .i64 k) ∧ w'.cell? ⟨w.heap.size, 1, none⟩ = some (.slice A n c)) ((refine and_below ?_ fun hk => ⟨(hk.cell (p := ⟨w.heap.size, 0, none⟩) pa_5.lt).trans (pa_5.at_ (i := 0) rfl), (hk.cell (p := ⟨w.heap.size, 1, none⟩) pa_5.lt).trans (pa_5.at_ (i := 1) rfl)⟩; repeat' (first | assumption | with_reducible exact Below.refl _ _ | with_reducible apply Below.drew | with_reducible apply below_drewN | with_reducible apply below_alloc | with_reducible refine below_set ?_ ?_ _ | (simp only [World.size_alloc, World.heap_drewN]; omega) | (simp; omega))))
    (first
      | (go_at_call 20; refine (rbot_is (h3.on (by repeat' (first | assumption | with_reducible exact Below.refl _ _ | with_reducible apply Below.drew | with_reducible apply below_drewN | with_reducible apply below_alloc | with_reducible refine below_set ?_ ?_ _ | (simp only [World.size_alloc, World.heap_drewN]; omega) | (simp; omega)))) HE.out).mono ?_; rintro e w4 ⟨rfl, b4⟩; have k34 : Below w3.heap.size w3 w4 := below_on (by repeat' (first | assumption | with_reducible exact Below.refl _ _ | with_reducible apply Below.drew | with_reducible apply below_drewN | with_reducible apply below_alloc | with_reducible refine below_set ?_ ?_ _ | (simp only [World.size_alloc, World.heap_drewN]; omega) | (simp; omega))) b4))
  have pa_6 := pa_5.below k34 pa_5.lt
  have pb_6 := pb_5.below k34 pb_5.lt
  have px_6 := px_5.below k34 px_5.lt
  have py_6 := py_5.below k34 py_5.lt
  have sx_s6 := sx_s5.on k34
  have sy_s6 := sy_s5.on k34
  have k_6 := below_on k_5 k34
  have f_pa0_6 := pa_6.at_ (i := 0) (u := .int .i64 k) rfl
  have f_pa1_6 := pa_6.at_ (i := 1) (u := .slice A n c) rfl
  go_wp2_with fail
  refine (bcheck_is (h.on k_6) HE.out).mono ?_
  rintro e w5 ⟨rfl, b5⟩
  clear f_pa0_6 f_pa1_6
  have pa_7 := pa_6.below b5 pa_6.lt
  have pb_7 := pb_6.below b5 pb_6.lt
  have px_7 := px_6.below b5 px_6.lt
  have py_7 := py_6.below b5 py_6.lt
  have sx_s7 := sx_s6.on b5
  have sy_s7 := sy_s6.on b5
  have k_7 := below_on k_6 b5
  go_wp2_with fail
  refine (bcheck_is (K := 0) (A := none) (n := 0) (c := 0) (xs := []) (Sl.nil _ _ _) bot_zero).mono ?_
  rintro e w6 ⟨rfl, b6⟩
  have pa_8 := pa_7.below b6 pa_7.lt
  have pb_8 := pb_7.below b6 pb_7.lt
  have px_8 := px_7.below b6 px_7.lt
  have py_8 := py_7.below b6 py_7.lt
  have sx_s8 := sx_s7.on b6
  have sy_s8 := sy_s7.on b6
  have k_8 := below_on k_7 b6
  have f_pa0_8 := pa_8.at_ (i := 0) (u := .int .i64 k) rfl
  have f_pa1_8 := pa_8.at_ (i := 1) (u := .slice A n c) rfl
  go_wp2_with fail
  refine (CG.out _ (h.on k_8)).mono ?_
  rintro e w7 ⟨rfl, b7⟩
  clear f_pa0_8 f_pa1_8
  have pa_9 := pa_8.below b7 pa_8.lt
  have pb_9 := pb_8.below b7 pb_8.lt
  have px_9 := px_8.below b7 px_8.lt
  have py_9 := py_8.below b7 py_8.lt
  have sx_s9 := sx_s8.on b7
  have sy_s9 := sy_s8.on b7
  have k_9 := below_on k_8 b7
  have f_pb0_9 := pb_9.at_ (i := 0) (u := .int .i64 K2) rfl
  have f_pb1_9 := pb_9.at_ (i := 1) (u := .slice A2 n2 c2) rfl
  go_wp2_with fail
  refine (rbot_is (h2.on k_9) HE2.out).mono ?_
  rintro e w8 ⟨rfl, b8⟩
  clear f_pb0_9 f_pb1_9
  have pa_10 := pa_9.below b8 pa_9.lt
  have pb_10 := pb_9.below b8 pb_9.lt
  have px_10 := px_9.below b8 px_9.lt
  have py_10 := py_9.below b8 py_9.lt
  have sx_s10 := sx_s9.on b8
  have sy_s10 := sy_s9.on b8
  have k_10 := below_on k_9 b8
  have f_py0_10 := py_10.at_ (i := 0) (u := .int .i64 0) rfl
  have f_py1_10 := py_10.at_ (i := 1) (u := .slice Ay ny cy) rfl
  go_wp2_with fail
  refine (same_nil sy_s10).mono ?_
  rintro e w9 ⟨rfl, b9⟩
  clear f_py0_10 f_py1_10
  have pa_11 := pa_10.below b9 pa_10.lt
  have pb_11 := pb_10.below b9 pb_10.lt
  have px_11 := px_10.below b9 px_10.lt
  have py_11 := py_10.below b9 py_10.lt
  have sx_s11 := sx_s10.on b9
  have sy_s11 := sy_s10.on b9
  have k_11 := below_on k_10 b9
  go_wp2_with fail
  refine (draw_is x _ HD.out).mono ?_
  rintro e w' ⟨rfl, rfl⟩
  have h9 := h.on k_11
  have sx9 := sx_s11
  have HNX := hide sx9.ilen
  go_upto_region 22 with fail
  go_region_held3 (fun w' => Below w9.heap.size w9 w' ∧ w'.cell? ⟨w.heap.size, 0, none⟩ = some (.int .i64 k) ∧ w'.cell? ⟨w.heap.size, 1, none⟩ = some (.slice A n c) ∧ w'.cell? ⟨w1.heap.size, 0, none⟩ = some (.int .i64 k) ∧ w'.cell? ⟨w1.heap.size, 1, none⟩ = some (.slice Ax nx cx)) ((refine and_below ?_ fun hk => ⟨(hk.cell (p := ⟨w.heap.size, 0, none⟩) pa_11.lt).trans (pa_11.at_ (i := 0) rfl), (hk.cell (p := ⟨w.heap.size, 1, none⟩) pa_11.lt).trans (pa_11.at_ (i := 1) rfl), (hk.cell (p := ⟨w1.heap.size, 0, none⟩) px_11.lt).trans (px_11.at_ (i := 0) rfl), (hk.cell (p := ⟨w1.heap.size, 1, none⟩) px_11.lt).trans (px_11.at_ (i := 1) rfl)⟩; repeat' (first | assumption | with_reducible exact Below.refl _ _ | with_reducible apply Below.drew | with_reducible apply below_drewN | with_reducible apply below_alloc | with_reducible refine below_set ?_ ?_ _ | (simp only [World.size_alloc, World.heap_drewN]; omega) | (simp; omega))))
    (first
      | (go_at_call 14; refine (clone_ints A n c xs _ (h9.on (by repeat' (first | assumption | with_reducible exact Below.refl _ _ | with_reducible apply Below.drew | with_reducible apply below_drewN | with_reducible apply below_alloc | with_reducible refine below_set ?_ ?_ _ | (simp only [World.size_alloc, World.heap_drewN]; omega) | (simp; omega)))) (by omega)).mono ?_; rintro e w13 ⟨v, rfl, hb1, AC, cC, rfl, hown⟩; have hw1 : Below w9.heap.size w9 w13 := below_on (by repeat' (first | assumption | with_reducible exact Below.refl _ _ | with_reducible apply Below.drew | with_reducible apply below_drewN | with_reducible apply below_alloc | with_reducible refine below_set ?_ ?_ _ | (simp only [World.size_alloc, World.heap_drewN]; omega) | (simp; omega))) hb1; have hown0 : Own w13 w9.heap.size 3 1 AC n cC (ints xs) := hown.mono (by simp))
      | (refine step_append_g T_int (base := w9.heap.size) (B := w13.heap.size + 1) (xs := ints xs) (news := [.int .i64 x]) (by first | rfl | kernel_rfl) _ _ (by rfl) (by rfl) (by rfl) ?_ ?_ (ints_one [x]) ?_ ?_ ?_ ?_; (first | with_reducible exact hown0 | with_reducible exact hown0.alloc _); (first | with_reducible exact Sl.new _ _ 1 1 [.int .i64 x] (by simp [maxLen]) rfl | exact (Sl.new _ _ 1 1 [.int .i64 x] (by simp [maxLen]) rfl).drew.upd hb1 (by simp) (Nat.succ_le_succ hw1.size)); (simp only [maxLen]; omega); omega; (first | exact hw1.size | exact (below_alloc hw1 _).size); intro AN cN w14 ap; have hw2 : Below w9.heap.size w9 w14 := (by first | with_reducible exact hw1.trans ap.below | with_reducible exact (below_alloc hw1 _).trans ap.below); have sN : Si w14 AN (n + 1) cN (xs ++ [x]) := (by show Sl w14 w14.heap.size 1 AN (n + 1) cN (ints (xs ++ [x])); rw [ints_append]; exact ap.own.sl))
      | (go_at_call 24; refine (least_ok (k := k) (sN.on (by repeat' (first | assumption | with_reducible exact Below.refl _ _ | with_reducible apply Below.drew | with_reducible apply below_drewN | with_reducible apply below_alloc | with_reducible refine below_set ?_ ?_ _ | (simp only [World.size_alloc, World.heap_drewN]; omega) | (simp; omega)))) HDX.out (by omega) (by omega)).mono ?_; rintro e w15 ⟨AL2, nL2, cL2, rfl, ownL2, b15⟩; rw [HZX.out] at ownL2; have hnL2 : nL2 = nx := ownL2.sl.ilen.symm.trans HNX.out; subst hnL2; have kL2 : Below w9.heap.size w9 w15 := below_on (by repeat' (first | assumption | with_reducible exact Below.refl _ _ | with_reducible apply Below.drew | with_reducible apply below_drewN | with_reducible apply below_alloc | with_reducible refine below_set ?_ ?_ _ | (simp only [World.size_alloc, World.heap_drewN]; omega) | (simp; omega))) b15)
      | (go_at_call 22; refine (sameb_yes (K := (k : Int)) (sx9.on (by repeat' (first | assumption | with_reducible exact Below.refl _ _ | with_reducible apply Below.drew | with_reducible apply below_drewN | with_reducible apply below_alloc | with_reducible refine below_set ?_ ?_ _ | (simp only [World.size_alloc, World.heap_drewN]; omega) | (simp; omega)))) (ownL2.sl.on (by repeat' (first | assumption | with_reducible exact Below.refl _ _ | with_reducible apply Below.drew | with_reducible apply below_drewN | with_reducible apply below_alloc | with_reducible refine below_set ?_ ?_ _ | (simp only [World.size_alloc, World.heap_drewN]; omega) | (simp; omega))))).mono ?_; rintro e w16 ⟨rfl, b16⟩; have kS2 : Below w9.heap.size w9 w16 := below_on (by repeat' (first | assumption | with_reducible exact Below.refl _ _ | with_reducible apply Below.drew | with_reducible apply below_drewN | with_reducible apply below_alloc | with_reducible refine below_set ?_ ?_ _ | (simp only [World.size_alloc, World.heap_drewN]; omega) | (simp; omega))) b16))
  all_goals go_wp2_with fail
  all_goals (go_ret; exact ⟨rfl, below_on k_11 kS2⟩)
set_option maxRecDepth 100000 in
set_option maxHeartbeats 3200000 in
theorem law_bot_bad_false {k : Nat} (h : Si w A n c xs) (h2 : Si w A2 n2 c2 ys) (he : botErr (k : Int) n xs = 0) {EB : Int} (he2 : botErr K2 n2 ys = EB) (hb0 : ¬ EB = 0) (hd : isDraw x = false) :
    Calls Try.prog 4 #[.agg #[.int .i64 k, .slice A n c], .agg #[.int .i64 K2, .slice A2 n2 c2], .int .i64 x] w fun e w' => e = .returned (.bool true) ∧ Below w.heap.size w w' := by
  obtain ⟨k1, k40, hnk, hup, hdr⟩ := botErr_ok h.ilen he
  obtain ⟨V, hV⟩ : ∃ V, guV (k : Int) n xs = V := ⟨_, rfl⟩
  obtain ⟨G, hG⟩ : ∃ G, guE (k : Int) n xs = G := ⟨_, rfl⟩
  have tv : (V != V) = false := by simp
  have tg : (G != G) = false := by simp
  have n40 : n ≤ 40 := by omega
  have hj : jnErr (k : Int) n xs K2 n2 ys = EB := by unfold jnErr; rw [if_pos he, he2, if_neg hb0]
  have CJ := hide (fun w (h : Si w A n c xs) (h2 : Si w A2 n2 c2 ys) => join_y h h2 hj hb0)
  have t1 : (EB != 0) = true := by simpa using hb0
  have t2 : (EB == 0) = false := by simpa using hb0
  have t3 : (EB != EB) = false := by simp
  have CP := hide (fun w (h : Si w A n c xs) => put_y h he hd)
  have CM := hide (fun w (h : Si w A n c xs) => many_ok h he hV hG)
  have CG := hide (fun w (h : Si w A n c xs) => guess_ok h he hV hG)
  have HE := hide he
  have HE2 := hide he2
  have HD := hide hd
  obtain ⟨pa_0, pb_0⟩ := twoBlk w (.int .i64 k) (.slice A n c) (.int .i64 K2) (.slice A2 n2 c2) 37
  have k_0 : Below w.heap.size w ((w.alloc (.cells #[.int .i64 k, .slice A n c] 37)).alloc (.cells #[.int .i64 K2, .slice A2 n2 c2] 37)) := by repeat' (first | assumption | with_reducible exact Below.refl _ _ | with_reducible apply Below.drew | with_reducible apply below_drewN | with_reducible apply below_alloc | with_reducible refine below_set ?_ ?_ _ | (simp only [World.size_alloc, World.heap_drewN]; omega) | (simp; omega))
  clear he he2 hd hV hG hup hdr hnk hj hb0
  have f_pa0_0 := pa_0.at_ (i := 0) (u := .int .i64 k) rfl
  have f_pa1_0 := pa_0.at_ (i := 1) (u := .slice A n c) rfl
  go_enter Try.func4, Try.ntmps4
  go_wp2_with fail
  refine (CP.out _ (h.on k_0)).mono ?_
  rintro e w1 ⟨Ax, nx, cx, rfl, sx, b1⟩
  clear f_pa0_0 f_pa1_0
  have pa_1 := pa_0.below b1 pa_0.lt
  have pb_1 := pb_0.below b1 pb_0.lt
  have k_1 := below_on k_0 b1
  have pa_2 := pa_1.alloc (.cells #[.int .i64 0, .slice Ax nx cx] 37)
  have pb_2 := pb_1.alloc (.cells #[.int .i64 0, .slice Ax nx cx] 37)
  have sx_s2 := sx.on (below_alloc (Below.refl _ _) (.cells #[.int .i64 0, .slice Ax nx cx] 37))
  have k_2 := below_alloc k_1 (.cells #[.int .i64 0, .slice Ax nx cx] 37)
  have px_2 := Blk.new w1 37 #[.int .i64 0, .slice Ax nx cx]
  have f_pa0_2 := pa_2.at_ (i := 0) (u := .int .i64 k) rfl
  have f_pa1_2 := pa_2.at_ (i := 1) (u := .slice A n c) rfl
  have f_pb0_2 := pb_2.at_ (i := 0) (u := .int .i64 K2) rfl
  have f_pb1_2 := pb_2.at_ (i := 1) (u := .slice A2 n2 c2) rfl
  go_wp2_with fail
  refine (CJ.out _ (h.on k_2) (h2.on k_2)).mono ?_
  rintro e w2 ⟨Ay, ny, cy, rfl, sy, b2⟩
  clear f_pa0_2 f_pa1_2 f_pb0_2 f_pb1_2
  have pa_3 := pa_2.below b2 pa_2.lt
  have pb_3 := pb_2.below b2 pb_2.lt
  have px_3 := px_2.below b2 px_2.lt
  have sx_s3 := sx_s2.on b2
  have k_3 := below_on k_2 b2
  have pa_4 := pa_3.alloc (.cells #[.int .i64 0, .slice Ay ny cy] 37)
  have pb_4 := pb_3.alloc (.cells #[.int .i64 0, .slice Ay ny cy] 37)
  have px_4 := px_3.alloc (.cells #[.int .i64 0, .slice Ay ny cy] 37)
  have sx_s4 := sx_s3.on (below_alloc (Below.refl _ _) (.cells #[.int .i64 0, .slice Ay ny cy] 37))
  have sy_s4 := sy.on (below_alloc (Below.refl _ _) (.cells #[.int .i64 0, .slice Ay ny cy] 37))
  have k_4 := below_alloc k_3 (.cells #[.int .i64 0, .slice Ay ny cy] 37)
  have py_4 := Blk.new w2 37 #[.int .i64 0, .slice Ay ny cy]
  have f_pa0_4 := pa_4.at_ (i := 0) (u := .int .i64 k) rfl
  have f_pa1_4 := pa_4.at_ (i := 1) (u := .slice A n c) rfl
  go_wp2_with fail
  refine (CM.out _ (h.on k_4)).mono ?_
  rintro e w3 ⟨rfl, b3⟩
  clear f_pa0_4 f_pa1_4
  have pa_5 := pa_4.below b3 pa_4.lt
  have pb_5 := pb_4.below b3 pb_4.lt
  have px_5 := px_4.below b3 px_4.lt
  have py_5 := py_4.below b3 py_4.lt
  have sx_s5 := sx_s4.on b3
  have sy_s5 := sy_s4.on b3
  have k_5 := below_on k_4 b3
  have h3 := h.on k_5
  go_wp2_with fail
  go_region_held3 (fun w' => Below w3.heap.size w3 w' ∧ w'.cell? ⟨w.heap.size, 0, none⟩ = some (.int .i64 k) ∧ w'.cell? ⟨w.heap.size, 1, none⟩ = some (.slice A n c)) ((refine and_below ?_ fun hk => ⟨(hk.cell (p := ⟨w.heap.size, 0, none⟩) pa_5.lt).trans (pa_5.at_ (i := 0) rfl), (hk.cell (p := ⟨w.heap.size, 1, none⟩) pa_5.lt).trans (pa_5.at_ (i := 1) rfl)⟩; repeat' (first | assumption | with_reducible exact Below.refl _ _ | with_reducible apply Below.drew | with_reducible apply below_drewN | with_reducible apply below_alloc | with_reducible refine below_set ?_ ?_ _ | (simp only [World.size_alloc, World.heap_drewN]; omega) | (simp; omega))))
    (first
      | (go_at_call 20; refine (rbot_is (h3.on (by repeat' (first | assumption | with_reducible exact Below.refl _ _ | with_reducible apply Below.drew | with_reducible apply below_drewN | with_reducible apply below_alloc | with_reducible refine below_set ?_ ?_ _ | (simp only [World.size_alloc, World.heap_drewN]; omega) | (simp; omega)))) HE.out).mono ?_; rintro e w4 ⟨rfl, b4⟩; have k34 : Below w3.heap.size w3 w4 := below_on (by repeat' (first | assumption | with_reducible exact Below.refl _ _ | with_reducible apply Below.drew | with_reducible apply below_drewN | with_reducible apply below_alloc | with_reducible refine below_set ?_ ?_ _ | (simp only [World.size_alloc, World.heap_drewN]; omega) | (simp; omega))) b4))
  have pa_6 := pa_5.below k34 pa_5.lt
  have pb_6 := pb_5.below k34 pb_5.lt
  have px_6 := px_5.below k34 px_5.lt
  have py_6 := py_5.below k34 py_5.lt
  have sx_s6 := sx_s5.on k34
  have sy_s6 := sy_s5.on k34
  have k_6 := below_on k_5 k34
  have f_pa0_6 := pa_6.at_ (i := 0) (u := .int .i64 k) rfl
  have f_pa1_6 := pa_6.at_ (i := 1) (u := .slice A n c) rfl
  go_wp2_with fail
  refine (bcheck_is (h.on k_6) HE.out).mono ?_
  rintro e w5 ⟨rfl, b5⟩
  clear f_pa0_6 f_pa1_6
  have pa_7 := pa_6.below b5 pa_6.lt
  have pb_7 := pb_6.below b5 pb_6.lt
  have px_7 := px_6.below b5 px_6.lt
  have py_7 := py_6.below b5 py_6.lt
  have sx_s7 := sx_s6.on b5
  have sy_s7 := sy_s6.on b5
  have k_7 := below_on k_6 b5
  go_wp2_with fail
  refine (bcheck_is (K := 0) (A := none) (n := 0) (c := 0) (xs := []) (Sl.nil _ _ _) bot_zero).mono ?_
  rintro e w6 ⟨rfl, b6⟩
  have pa_8 := pa_7.below b6 pa_7.lt
  have pb_8 := pb_7.below b6 pb_7.lt
  have px_8 := px_7.below b6 px_7.lt
  have py_8 := py_7.below b6 py_7.lt
  have sx_s8 := sx_s7.on b6
  have sy_s8 := sy_s7.on b6
  have k_8 := below_on k_7 b6
  have f_pa0_8 := pa_8.at_ (i := 0) (u := .int .i64 k) rfl
  have f_pa1_8 := pa_8.at_ (i := 1) (u := .slice A n c) rfl
  go_wp2_with fail
  refine (CG.out _ (h.on k_8)).mono ?_
  rintro e w7 ⟨rfl, b7⟩
  clear f_pa0_8 f_pa1_8
  have pa_9 := pa_8.below b7 pa_8.lt
  have pb_9 := pb_8.below b7 pb_8.lt
  have px_9 := px_8.below b7 px_8.lt
  have py_9 := py_8.below b7 py_8.lt
  have sx_s9 := sx_s8.on b7
  have sy_s9 := sy_s8.on b7
  have k_9 := below_on k_8 b7
  have f_pb0_9 := pb_9.at_ (i := 0) (u := .int .i64 K2) rfl
  have f_pb1_9 := pb_9.at_ (i := 1) (u := .slice A2 n2 c2) rfl
  go_wp2_with fail
  refine (rbot_is (h2.on k_9) HE2.out).mono ?_
  rintro e w8 ⟨rfl, b8⟩
  clear f_pb0_9 f_pb1_9
  have pa_10 := pa_9.below b8 pa_9.lt
  have pb_10 := pb_9.below b8 pb_9.lt
  have px_10 := px_9.below b8 px_9.lt
  have py_10 := py_9.below b8 py_9.lt
  have sx_s10 := sx_s9.on b8
  have sy_s10 := sy_s9.on b8
  have k_10 := below_on k_9 b8
  have f_py0_10 := py_10.at_ (i := 0) (u := .int .i64 0) rfl
  have f_py1_10 := py_10.at_ (i := 1) (u := .slice Ay ny cy) rfl
  go_wp2_with fail
  refine (same_nil sy_s10).mono ?_
  rintro e w9 ⟨rfl, b9⟩
  clear f_py0_10 f_py1_10
  have pa_11 := pa_10.below b9 pa_10.lt
  have pb_11 := pb_10.below b9 pb_10.lt
  have px_11 := px_10.below b9 px_10.lt
  have py_11 := py_10.below b9 py_10.lt
  have sx_s11 := sx_s10.on b9
  have sy_s11 := sy_s10.on b9
  have k_11 := below_on k_10 b9
  go_wp2_with fail
  refine (draw_is x _ HD.out).mono ?_
  rintro e w' ⟨rfl, rfl⟩
  have f_px0_11 := px_11.at_ (i := 0) (u := .int .i64 0) rfl
  have f_px1_11 := px_11.at_ (i := 1) (u := .slice Ax nx cx) rfl
  go_wp2_with fail
  refine (same_nil sx_s11).mono ?_
  rintro e w12 ⟨rfl, b12⟩
  clear f_px0_11 f_px1_11
  have pa_12 := pa_11.below b12 pa_11.lt
  have pb_12 := pb_11.below b12 pb_11.lt
  have px_12 := px_11.below b12 px_11.lt
  have py_12 := py_11.below b12 py_11.lt
  have sx_s12 := sx_s11.on b12
  have sy_s12 := sy_s11.on b12
  have k_12 := below_on k_11 b12
  go_wp2_with fail
  go_ret
  exact ⟨rfl, k_12⟩
set_option maxRecDepth 100000 in
set_option maxHeartbeats 3200000 in
theorem law_bot_ne_true {k : Nat} (h : Si w A n c xs) (h2 : Si w A2 n2 c2 ys) (he : botErr (k : Int) n xs = 0) (he2 : botErr K2 n2 ys = 0) (hne : ¬ (k : Int) = K2) (hd : isDraw x = true) :
    Calls Try.prog 4 #[.agg #[.int .i64 k, .slice A n c], .agg #[.int .i64 K2, .slice A2 n2 c2], .int .i64 x] w fun e w' => e = .returned (.bool true) ∧ Below w.heap.size w w' := by
  obtain ⟨k1, k40, hnk, hup, hdr⟩ := botErr_ok h.ilen he
  obtain ⟨V, hV⟩ : ∃ V, guV (k : Int) n xs = V := ⟨_, rfl⟩
  obtain ⟨G, hG⟩ : ∃ G, guE (k : Int) n xs = G := ⟨_, rfl⟩
  have tv : (V != V) = false := by simp
  have tg : (G != G) = false := by simp
  have n40 : n ≤ 40 := by omega
  have hj : jnErr (k : Int) n xs K2 n2 ys = 7 := by unfold jnErr; rw [if_pos he, if_pos he2, if_neg hne]
  have CJ := hide (fun w (h : Si w A n c xs) (h2 : Si w A2 n2 c2 ys) => join_y h h2 hj (by decide))
  have t1 : ((k : Int) != K2) = true := by simpa using hne
  obtain ⟨ZX, hZX⟩ : ∃ Z, (insU x xs).take k = Z := ⟨_, rfl⟩
  have HZX := hide (show (allU (xs ++ [x])).take k = ZX by rw [← hZX]; exact (put_is hup).symm)
  have HDX := hide (show ∀ z ∈ xs ++ [x], 0 ≤ z ∧ z ≤ 72057594037927935 from fun z hz => (List.mem_append.1 hz).elim (hdr z) (fun hz => by rw [List.mem_singleton] at hz; subst hz; exact of_decide_eq_true (show decide (0 ≤ z ∧ z ≤ 72057594037927935) = true from hd)))
  have CP := hide (fun w (h : Si w A n c xs) => put_x h he hd hZX)
  have CM := hide (fun w (h : Si w A n c xs) => many_ok h he hV hG)
  have CG := hide (fun w (h : Si w A n c xs) => guess_ok h he hV hG)
  have HE := hide he
  have HE2 := hide he2
  have HD := hide hd
  obtain ⟨pa_0, pb_0⟩ := twoBlk w (.int .i64 k) (.slice A n c) (.int .i64 K2) (.slice A2 n2 c2) 37
  have k_0 : Below w.heap.size w ((w.alloc (.cells #[.int .i64 k, .slice A n c] 37)).alloc (.cells #[.int .i64 K2, .slice A2 n2 c2] 37)) := by repeat' (first | assumption | with_reducible exact Below.refl _ _ | with_reducible apply Below.drew | with_reducible apply below_drewN | with_reducible apply below_alloc | with_reducible refine below_set ?_ ?_ _ | (simp only [World.size_alloc, World.heap_drewN]; omega) | (simp; omega))
  clear he he2 hd hV hG hup hdr hnk hj hZX hne
  have f_pa0_0 := pa_0.at_ (i := 0) (u := .int .i64 k) rfl
  have f_pa1_0 := pa_0.at_ (i := 1) (u := .slice A n c) rfl
  go_enter Try.func4, Try.ntmps4
  go_wp2_with fail
  refine (CP.out _ (h.on k_0)).mono ?_
  rintro e w1 ⟨Ax, nx, cx, rfl, sx, b1⟩
  clear f_pa0_0 f_pa1_0
  have pa_1 := pa_0.below b1 pa_0.lt
  have pb_1 := pb_0.below b1 pb_0.lt
  have k_1 := below_on k_0 b1
  have pa_2 := pa_1.alloc (.cells #[.int .i64 k, .slice Ax nx cx] 37)
  have pb_2 := pb_1.alloc (.cells #[.int .i64 k, .slice Ax nx cx] 37)
  have sx_s2 := sx.on (below_alloc (Below.refl _ _) (.cells #[.int .i64 k, .slice Ax nx cx] 37))
  have k_2 := below_alloc k_1 (.cells #[.int .i64 k, .slice Ax nx cx] 37)
  have px_2 := Blk.new w1 37 #[.int .i64 k, .slice Ax nx cx]
  have f_pa0_2 := pa_2.at_ (i := 0) (u := .int .i64 k) rfl
  have f_pa1_2 := pa_2.at_ (i := 1) (u := .slice A n c) rfl
  have f_pb0_2 := pb_2.at_ (i := 0) (u := .int .i64 K2) rfl
  have f_pb1_2 := pb_2.at_ (i := 1) (u := .slice A2 n2 c2) rfl
  go_wp2_with fail
  refine (CJ.out _ (h.on k_2) (h2.on k_2)).mono ?_
  rintro e w2 ⟨Ay, ny, cy, rfl, sy, b2⟩
  clear f_pa0_2 f_pa1_2 f_pb0_2 f_pb1_2
  have pa_3 := pa_2.below b2 pa_2.lt
  have pb_3 := pb_2.below b2 pb_2.lt
  have px_3 := px_2.below b2 px_2.lt
  have sx_s3 := sx_s2.on b2
  have k_3 := below_on k_2 b2
  have pa_4 := pa_3.alloc (.cells #[.int .i64 0, .slice Ay ny cy] 37)
  have pb_4 := pb_3.alloc (.cells #[.int .i64 0, .slice Ay ny cy] 37)
  have px_4 := px_3.alloc (.cells #[.int .i64 0, .slice Ay ny cy] 37)
  have sx_s4 := sx_s3.on (below_alloc (Below.refl _ _) (.cells #[.int .i64 0, .slice Ay ny cy] 37))
  have sy_s4 := sy.on (below_alloc (Below.refl _ _) (.cells #[.int .i64 0, .slice Ay ny cy] 37))
  have k_4 := below_alloc k_3 (.cells #[.int .i64 0, .slice Ay ny cy] 37)
  have py_4 := Blk.new w2 37 #[.int .i64 0, .slice Ay ny cy]
  have f_pa0_4 := pa_4.at_ (i := 0) (u := .int .i64 k) rfl
  have f_pa1_4 := pa_4.at_ (i := 1) (u := .slice A n c) rfl
  go_wp2_with fail
  refine (CM.out _ (h.on k_4)).mono ?_
  rintro e w3 ⟨rfl, b3⟩
  clear f_pa0_4 f_pa1_4
  have pa_5 := pa_4.below b3 pa_4.lt
  have pb_5 := pb_4.below b3 pb_4.lt
  have px_5 := px_4.below b3 px_4.lt
  have py_5 := py_4.below b3 py_4.lt
  have sx_s5 := sx_s4.on b3
  have sy_s5 := sy_s4.on b3
  have k_5 := below_on k_4 b3
  have h3 := h.on k_5
  go_wp2_with fail
  go_region_held3 (fun w' => Below w3.heap.size w3 w' ∧ w'.cell? ⟨w.heap.size, 0, none⟩ = some (.int .i64 k) ∧ w'.cell? ⟨w.heap.size, 1, none⟩ = some (.slice A n c)) ((refine and_below ?_ fun hk => ⟨(hk.cell (p := ⟨w.heap.size, 0, none⟩) pa_5.lt).trans (pa_5.at_ (i := 0) rfl), (hk.cell (p := ⟨w.heap.size, 1, none⟩) pa_5.lt).trans (pa_5.at_ (i := 1) rfl)⟩; repeat' (first | assumption | with_reducible exact Below.refl _ _ | with_reducible apply Below.drew | with_reducible apply below_drewN | with_reducible apply below_alloc | with_reducible refine below_set ?_ ?_ _ | (simp only [World.size_alloc, World.heap_drewN]; omega) | (simp; omega))))
    (first
      | (go_at_call 20; refine (rbot_is (h3.on (by repeat' (first | assumption | with_reducible exact Below.refl _ _ | with_reducible apply Below.drew | with_reducible apply below_drewN | with_reducible apply below_alloc | with_reducible refine below_set ?_ ?_ _ | (simp only [World.size_alloc, World.heap_drewN]; omega) | (simp; omega)))) HE.out).mono ?_; rintro e w4 ⟨rfl, b4⟩; have k34 : Below w3.heap.size w3 w4 := below_on (by repeat' (first | assumption | with_reducible exact Below.refl _ _ | with_reducible apply Below.drew | with_reducible apply below_drewN | with_reducible apply below_alloc | with_reducible refine below_set ?_ ?_ _ | (simp only [World.size_alloc, World.heap_drewN]; omega) | (simp; omega))) b4))
  have pa_6 := pa_5.below k34 pa_5.lt
  have pb_6 := pb_5.below k34 pb_5.lt
  have px_6 := px_5.below k34 px_5.lt
  have py_6 := py_5.below k34 py_5.lt
  have sx_s6 := sx_s5.on k34
  have sy_s6 := sy_s5.on k34
  have k_6 := below_on k_5 k34
  have f_pa0_6 := pa_6.at_ (i := 0) (u := .int .i64 k) rfl
  have f_pa1_6 := pa_6.at_ (i := 1) (u := .slice A n c) rfl
  go_wp2_with fail
  refine (bcheck_is (h.on k_6) HE.out).mono ?_
  rintro e w5 ⟨rfl, b5⟩
  clear f_pa0_6 f_pa1_6
  have pa_7 := pa_6.below b5 pa_6.lt
  have pb_7 := pb_6.below b5 pb_6.lt
  have px_7 := px_6.below b5 px_6.lt
  have py_7 := py_6.below b5 py_6.lt
  have sx_s7 := sx_s6.on b5
  have sy_s7 := sy_s6.on b5
  have k_7 := below_on k_6 b5
  go_wp2_with fail
  refine (bcheck_is (K := 0) (A := none) (n := 0) (c := 0) (xs := []) (Sl.nil _ _ _) bot_zero).mono ?_
  rintro e w6 ⟨rfl, b6⟩
  have pa_8 := pa_7.below b6 pa_7.lt
  have pb_8 := pb_7.below b6 pb_7.lt
  have px_8 := px_7.below b6 px_7.lt
  have py_8 := py_7.below b6 py_7.lt
  have sx_s8 := sx_s7.on b6
  have sy_s8 := sy_s7.on b6
  have k_8 := below_on k_7 b6
  have f_pa0_8 := pa_8.at_ (i := 0) (u := .int .i64 k) rfl
  have f_pa1_8 := pa_8.at_ (i := 1) (u := .slice A n c) rfl
  go_wp2_with fail
  refine (CG.out _ (h.on k_8)).mono ?_
  rintro e w7 ⟨rfl, b7⟩
  clear f_pa0_8 f_pa1_8
  have pa_9 := pa_8.below b7 pa_8.lt
  have pb_9 := pb_8.below b7 pb_8.lt
  have px_9 := px_8.below b7 px_8.lt
  have py_9 := py_8.below b7 py_8.lt
  have sx_s9 := sx_s8.on b7
  have sy_s9 := sy_s8.on b7
  have k_9 := below_on k_8 b7
  have f_pb0_9 := pb_9.at_ (i := 0) (u := .int .i64 K2) rfl
  have f_pb1_9 := pb_9.at_ (i := 1) (u := .slice A2 n2 c2) rfl
  go_wp2_with fail
  refine (rbot_is (h2.on k_9) HE2.out).mono ?_
  rintro e w8 ⟨rfl, b8⟩
  clear f_pb0_9 f_pb1_9
  have pa_10 := pa_9.below b8 pa_9.lt
  have pb_10 := pb_9.below b8 pb_9.lt
  have px_10 := px_9.below b8 px_9.lt
  have py_10 := py_9.below b8 py_9.lt
  have sx_s10 := sx_s9.on b8
  have sy_s10 := sy_s9.on b8
  have k_10 := below_on k_9 b8
  have f_pa0_10 := pa_10.at_ (i := 0) (u := .int .i64 k) rfl
  have f_pa1_10 := pa_10.at_ (i := 1) (u := .slice A n c) rfl
  have f_pb0_10 := pb_10.at_ (i := 0) (u := .int .i64 K2) rfl
  have f_pb1_10 := pb_10.at_ (i := 1) (u := .slice A2 n2 c2) rfl
  have f_py0_10 := py_10.at_ (i := 0) (u := .int .i64 0) rfl
  have f_py1_10 := py_10.at_ (i := 1) (u := .slice Ay ny cy) rfl
  go_wp2_with fail
  refine (same_nil sy_s10).mono ?_
  rintro e w9 ⟨rfl, b9⟩
  clear f_pa0_10 f_pa1_10 f_pb0_10 f_pb1_10 f_py0_10 f_py1_10
  have pa_11 := pa_10.below b9 pa_10.lt
  have pb_11 := pb_10.below b9 pb_10.lt
  have px_11 := px_10.below b9 px_10.lt
  have py_11 := py_10.below b9 py_10.lt
  have sx_s11 := sx_s10.on b9
  have sy_s11 := sy_s10.on b9
  have k_11 := below_on k_10 b9
  go_wp2_with fail
  refine (draw_is x _ HD.out).mono ?_
  rintro e w' ⟨rfl, rfl⟩
  have h9 := h.on k_11
  have sx9 := sx_s11
  have HNX := hide sx9.ilen
  go_upto_region 22 with fail
  go_region_held3 (fun w' => Below w9.heap.size w9 w' ∧ w'.cell? ⟨w.heap.size, 0, none⟩ = some (.int .i64 k) ∧ w'.cell? ⟨w.heap.size, 1, none⟩ = some (.slice A n c) ∧ w'.cell? ⟨w1.heap.size, 0, none⟩ = some (.int .i64 k) ∧ w'.cell? ⟨w1.heap.size, 1, none⟩ = some (.slice Ax nx cx)) ((refine and_below ?_ fun hk => ⟨(hk.cell (p := ⟨w.heap.size, 0, none⟩) pa_11.lt).trans (pa_11.at_ (i := 0) rfl), (hk.cell (p := ⟨w.heap.size, 1, none⟩) pa_11.lt).trans (pa_11.at_ (i := 1) rfl), (hk.cell (p := ⟨w1.heap.size, 0, none⟩) px_11.lt).trans (px_11.at_ (i := 0) rfl), (hk.cell (p := ⟨w1.heap.size, 1, none⟩) px_11.lt).trans (px_11.at_ (i := 1) rfl)⟩; repeat' (first | assumption | with_reducible exact Below.refl _ _ | with_reducible apply Below.drew | with_reducible apply below_drewN | with_reducible apply below_alloc | with_reducible refine below_set ?_ ?_ _ | (simp only [World.size_alloc, World.heap_drewN]; omega) | (simp; omega))))
    (first
      | (go_at_call 14; refine (clone_ints A n c xs _ (h9.on (by repeat' (first | assumption | with_reducible exact Below.refl _ _ | with_reducible apply Below.drew | with_reducible apply below_drewN | with_reducible apply below_alloc | with_reducible refine below_set ?_ ?_ _ | (simp only [World.size_alloc, World.heap_drewN]; omega) | (simp; omega)))) (by omega)).mono ?_; rintro e w13 ⟨v, rfl, hb1, AC, cC, rfl, hown⟩; have hw1 : Below w9.heap.size w9 w13 := below_on (by repeat' (first | assumption | with_reducible exact Below.refl _ _ | with_reducible apply Below.drew | with_reducible apply below_drewN | with_reducible apply below_alloc | with_reducible refine below_set ?_ ?_ _ | (simp only [World.size_alloc, World.heap_drewN]; omega) | (simp; omega))) hb1; have hown0 : Own w13 w9.heap.size 3 1 AC n cC (ints xs) := hown.mono (by simp))
      | (refine step_append_g T_int (base := w9.heap.size) (B := w13.heap.size + 1) (xs := ints xs) (news := [.int .i64 x]) (by first | rfl | kernel_rfl) _ _ (by rfl) (by rfl) (by rfl) ?_ ?_ (ints_one [x]) ?_ ?_ ?_ ?_; (first | with_reducible exact hown0 | with_reducible exact hown0.alloc _); (first | with_reducible exact Sl.new _ _ 1 1 [.int .i64 x] (by simp [maxLen]) rfl | exact (Sl.new _ _ 1 1 [.int .i64 x] (by simp [maxLen]) rfl).drew.upd hb1 (by simp) (Nat.succ_le_succ hw1.size)); (simp only [maxLen]; omega); omega; (first | exact hw1.size | exact (below_alloc hw1 _).size); intro AN cN w14 ap; have hw2 : Below w9.heap.size w9 w14 := (by first | with_reducible exact hw1.trans ap.below | with_reducible exact (below_alloc hw1 _).trans ap.below); have sN : Si w14 AN (n + 1) cN (xs ++ [x]) := (by show Sl w14 w14.heap.size 1 AN (n + 1) cN (ints (xs ++ [x])); rw [ints_append]; exact ap.own.sl))
      | (go_at_call 24; refine (least_ok (k := k) (sN.on (by repeat' (first | assumption | with_reducible exact Below.refl _ _ | with_reducible apply Below.drew | with_reducible apply below_drewN | with_reducible apply below_alloc | with_reducible refine below_set ?_ ?_ _ | (simp only [World.size_alloc, World.heap_drewN]; omega) | (simp; omega)))) HDX.out (by omega) (by omega)).mono ?_; rintro e w15 ⟨AL2, nL2, cL2, rfl, ownL2, b15⟩; rw [HZX.out] at ownL2; have hnL2 : nL2 = nx := ownL2.sl.ilen.symm.trans HNX.out; subst hnL2; have kL2 : Below w9.heap.size w9 w15 := below_on (by repeat' (first | assumption | with_reducible exact Below.refl _ _ | with_reducible apply Below.drew | with_reducible apply below_drewN | with_reducible apply below_alloc | with_reducible refine below_set ?_ ?_ _ | (simp only [World.size_alloc, World.heap_drewN]; omega) | (simp; omega))) b15)
      | (go_at_call 22; refine (sameb_yes (K := (k : Int)) (sx9.on (by repeat' (first | assumption | with_reducible exact Below.refl _ _ | with_reducible apply Below.drew | with_reducible apply below_drewN | with_reducible apply below_alloc | with_reducible refine below_set ?_ ?_ _ | (simp only [World.size_alloc, World.heap_drewN]; omega) | (simp; omega)))) (ownL2.sl.on (by repeat' (first | assumption | with_reducible exact Below.refl _ _ | with_reducible apply Below.drew | with_reducible apply below_drewN | with_reducible apply below_alloc | with_reducible refine below_set ?_ ?_ _ | (simp only [World.size_alloc, World.heap_drewN]; omega) | (simp; omega))))).mono ?_; rintro e w16 ⟨rfl, b16⟩; have kS2 : Below w9.heap.size w9 w16 := below_on (by repeat' (first | assumption | with_reducible exact Below.refl _ _ | with_reducible apply Below.drew | with_reducible apply below_drewN | with_reducible apply below_alloc | with_reducible refine below_set ?_ ?_ _ | (simp only [World.size_alloc, World.heap_drewN]; omega) | (simp; omega))) b16))
  all_goals go_wp2_with fail
  all_goals (go_ret; exact ⟨rfl, below_on k_11 kS2⟩)
set_option maxRecDepth 100000 in
set_option maxHeartbeats 3200000 in
theorem law_bot_ne_false {k : Nat} (h : Si w A n c xs) (h2 : Si w A2 n2 c2 ys) (he : botErr (k : Int) n xs = 0) (he2 : botErr K2 n2 ys = 0) (hne : ¬ (k : Int) = K2) (hd : isDraw x = false) :
    Calls Try.prog 4 #[.agg #[.int .i64 k, .slice A n c], .agg #[.int .i64 K2, .slice A2 n2 c2], .int .i64 x] w fun e w' => e = .returned (.bool true) ∧ Below w.heap.size w w' := by
  obtain ⟨k1, k40, hnk, hup, hdr⟩ := botErr_ok h.ilen he
  obtain ⟨V, hV⟩ : ∃ V, guV (k : Int) n xs = V := ⟨_, rfl⟩
  obtain ⟨G, hG⟩ : ∃ G, guE (k : Int) n xs = G := ⟨_, rfl⟩
  have tv : (V != V) = false := by simp
  have tg : (G != G) = false := by simp
  have n40 : n ≤ 40 := by omega
  have hj : jnErr (k : Int) n xs K2 n2 ys = 7 := by unfold jnErr; rw [if_pos he, if_pos he2, if_neg hne]
  have CJ := hide (fun w (h : Si w A n c xs) (h2 : Si w A2 n2 c2 ys) => join_y h h2 hj (by decide))
  have t1 : ((k : Int) != K2) = true := by simpa using hne
  have CP := hide (fun w (h : Si w A n c xs) => put_y h he hd)
  have CM := hide (fun w (h : Si w A n c xs) => many_ok h he hV hG)
  have CG := hide (fun w (h : Si w A n c xs) => guess_ok h he hV hG)
  have HE := hide he
  have HE2 := hide he2
  have HD := hide hd
  obtain ⟨pa_0, pb_0⟩ := twoBlk w (.int .i64 k) (.slice A n c) (.int .i64 K2) (.slice A2 n2 c2) 37
  have k_0 : Below w.heap.size w ((w.alloc (.cells #[.int .i64 k, .slice A n c] 37)).alloc (.cells #[.int .i64 K2, .slice A2 n2 c2] 37)) := by repeat' (first | assumption | with_reducible exact Below.refl _ _ | with_reducible apply Below.drew | with_reducible apply below_drewN | with_reducible apply below_alloc | with_reducible refine below_set ?_ ?_ _ | (simp only [World.size_alloc, World.heap_drewN]; omega) | (simp; omega))
  clear he he2 hd hV hG hup hdr hnk hj hne
  have f_pa0_0 := pa_0.at_ (i := 0) (u := .int .i64 k) rfl
  have f_pa1_0 := pa_0.at_ (i := 1) (u := .slice A n c) rfl
  go_enter Try.func4, Try.ntmps4
  go_wp2_with fail
  refine (CP.out _ (h.on k_0)).mono ?_
  rintro e w1 ⟨Ax, nx, cx, rfl, sx, b1⟩
  clear f_pa0_0 f_pa1_0
  have pa_1 := pa_0.below b1 pa_0.lt
  have pb_1 := pb_0.below b1 pb_0.lt
  have k_1 := below_on k_0 b1
  have pa_2 := pa_1.alloc (.cells #[.int .i64 0, .slice Ax nx cx] 37)
  have pb_2 := pb_1.alloc (.cells #[.int .i64 0, .slice Ax nx cx] 37)
  have sx_s2 := sx.on (below_alloc (Below.refl _ _) (.cells #[.int .i64 0, .slice Ax nx cx] 37))
  have k_2 := below_alloc k_1 (.cells #[.int .i64 0, .slice Ax nx cx] 37)
  have px_2 := Blk.new w1 37 #[.int .i64 0, .slice Ax nx cx]
  have f_pa0_2 := pa_2.at_ (i := 0) (u := .int .i64 k) rfl
  have f_pa1_2 := pa_2.at_ (i := 1) (u := .slice A n c) rfl
  have f_pb0_2 := pb_2.at_ (i := 0) (u := .int .i64 K2) rfl
  have f_pb1_2 := pb_2.at_ (i := 1) (u := .slice A2 n2 c2) rfl
  go_wp2_with fail
  refine (CJ.out _ (h.on k_2) (h2.on k_2)).mono ?_
  rintro e w2 ⟨Ay, ny, cy, rfl, sy, b2⟩
  clear f_pa0_2 f_pa1_2 f_pb0_2 f_pb1_2
  have pa_3 := pa_2.below b2 pa_2.lt
  have pb_3 := pb_2.below b2 pb_2.lt
  have px_3 := px_2.below b2 px_2.lt
  have sx_s3 := sx_s2.on b2
  have k_3 := below_on k_2 b2
  have pa_4 := pa_3.alloc (.cells #[.int .i64 0, .slice Ay ny cy] 37)
  have pb_4 := pb_3.alloc (.cells #[.int .i64 0, .slice Ay ny cy] 37)
  have px_4 := px_3.alloc (.cells #[.int .i64 0, .slice Ay ny cy] 37)
  have sx_s4 := sx_s3.on (below_alloc (Below.refl _ _) (.cells #[.int .i64 0, .slice Ay ny cy] 37))
  have sy_s4 := sy.on (below_alloc (Below.refl _ _) (.cells #[.int .i64 0, .slice Ay ny cy] 37))
  have k_4 := below_alloc k_3 (.cells #[.int .i64 0, .slice Ay ny cy] 37)
  have py_4 := Blk.new w2 37 #[.int .i64 0, .slice Ay ny cy]
  have f_pa0_4 := pa_4.at_ (i := 0) (u := .int .i64 k) rfl
  have f_pa1_4 := pa_4.at_ (i := 1) (u := .slice A n c) rfl
  go_wp2_with fail
  refine (CM.out _ (h.on k_4)).mono ?_
  rintro e w3 ⟨rfl, b3⟩
  clear f_pa0_4 f_pa1_4
  have pa_5 := pa_4.below b3 pa_4.lt
  have pb_5 := pb_4.below b3 pb_4.lt
  have px_5 := px_4.below b3 px_4.lt
  have py_5 := py_4.below b3 py_4.lt
  have sx_s5 := sx_s4.on b3
  have sy_s5 := sy_s4.on b3
  have k_5 := below_on k_4 b3
  have h3 := h.on k_5
  go_wp2_with fail
  go_region_held3 (fun w' => Below w3.heap.size w3 w' ∧ w'.cell? ⟨w.heap.size, 0, none⟩ = some (.int .i64 k) ∧ w'.cell? ⟨w.heap.size, 1, none⟩ = some (.slice A n c)) ((refine and_below ?_ fun hk => ⟨(hk.cell (p := ⟨w.heap.size, 0, none⟩) pa_5.lt).trans (pa_5.at_ (i := 0) rfl), (hk.cell (p := ⟨w.heap.size, 1, none⟩) pa_5.lt).trans (pa_5.at_ (i := 1) rfl)⟩; repeat' (first | assumption | with_reducible exact Below.refl _ _ | with_reducible apply Below.drew | with_reducible apply below_drewN | with_reducible apply below_alloc | with_reducible refine below_set ?_ ?_ _ | (simp only [World.size_alloc, World.heap_drewN]; omega) | (simp; omega))))
    (first
      | (go_at_call 20; refine (rbot_is (h3.on (by repeat' (first | assumption | with_reducible exact Below.refl _ _ | with_reducible apply Below.drew | with_reducible apply below_drewN | with_reducible apply below_alloc | with_reducible refine below_set ?_ ?_ _ | (simp only [World.size_alloc, World.heap_drewN]; omega) | (simp; omega)))) HE.out).mono ?_; rintro e w4 ⟨rfl, b4⟩; have k34 : Below w3.heap.size w3 w4 := below_on (by repeat' (first | assumption | with_reducible exact Below.refl _ _ | with_reducible apply Below.drew | with_reducible apply below_drewN | with_reducible apply below_alloc | with_reducible refine below_set ?_ ?_ _ | (simp only [World.size_alloc, World.heap_drewN]; omega) | (simp; omega))) b4))
  have pa_6 := pa_5.below k34 pa_5.lt
  have pb_6 := pb_5.below k34 pb_5.lt
  have px_6 := px_5.below k34 px_5.lt
  have py_6 := py_5.below k34 py_5.lt
  have sx_s6 := sx_s5.on k34
  have sy_s6 := sy_s5.on k34
  have k_6 := below_on k_5 k34
  have f_pa0_6 := pa_6.at_ (i := 0) (u := .int .i64 k) rfl
  have f_pa1_6 := pa_6.at_ (i := 1) (u := .slice A n c) rfl
  go_wp2_with fail
  refine (bcheck_is (h.on k_6) HE.out).mono ?_
  rintro e w5 ⟨rfl, b5⟩
  clear f_pa0_6 f_pa1_6
  have pa_7 := pa_6.below b5 pa_6.lt
  have pb_7 := pb_6.below b5 pb_6.lt
  have px_7 := px_6.below b5 px_6.lt
  have py_7 := py_6.below b5 py_6.lt
  have sx_s7 := sx_s6.on b5
  have sy_s7 := sy_s6.on b5
  have k_7 := below_on k_6 b5
  go_wp2_with fail
  refine (bcheck_is (K := 0) (A := none) (n := 0) (c := 0) (xs := []) (Sl.nil _ _ _) bot_zero).mono ?_
  rintro e w6 ⟨rfl, b6⟩
  have pa_8 := pa_7.below b6 pa_7.lt
  have pb_8 := pb_7.below b6 pb_7.lt
  have px_8 := px_7.below b6 px_7.lt
  have py_8 := py_7.below b6 py_7.lt
  have sx_s8 := sx_s7.on b6
  have sy_s8 := sy_s7.on b6
  have k_8 := below_on k_7 b6
  have f_pa0_8 := pa_8.at_ (i := 0) (u := .int .i64 k) rfl
  have f_pa1_8 := pa_8.at_ (i := 1) (u := .slice A n c) rfl
  go_wp2_with fail
  refine (CG.out _ (h.on k_8)).mono ?_
  rintro e w7 ⟨rfl, b7⟩
  clear f_pa0_8 f_pa1_8
  have pa_9 := pa_8.below b7 pa_8.lt
  have pb_9 := pb_8.below b7 pb_8.lt
  have px_9 := px_8.below b7 px_8.lt
  have py_9 := py_8.below b7 py_8.lt
  have sx_s9 := sx_s8.on b7
  have sy_s9 := sy_s8.on b7
  have k_9 := below_on k_8 b7
  have f_pb0_9 := pb_9.at_ (i := 0) (u := .int .i64 K2) rfl
  have f_pb1_9 := pb_9.at_ (i := 1) (u := .slice A2 n2 c2) rfl
  go_wp2_with fail
  refine (rbot_is (h2.on k_9) HE2.out).mono ?_
  rintro e w8 ⟨rfl, b8⟩
  clear f_pb0_9 f_pb1_9
  have pa_10 := pa_9.below b8 pa_9.lt
  have pb_10 := pb_9.below b8 pb_9.lt
  have px_10 := px_9.below b8 px_9.lt
  have py_10 := py_9.below b8 py_9.lt
  have sx_s10 := sx_s9.on b8
  have sy_s10 := sy_s9.on b8
  have k_10 := below_on k_9 b8
  have f_pa0_10 := pa_10.at_ (i := 0) (u := .int .i64 k) rfl
  have f_pa1_10 := pa_10.at_ (i := 1) (u := .slice A n c) rfl
  have f_pb0_10 := pb_10.at_ (i := 0) (u := .int .i64 K2) rfl
  have f_pb1_10 := pb_10.at_ (i := 1) (u := .slice A2 n2 c2) rfl
  have f_py0_10 := py_10.at_ (i := 0) (u := .int .i64 0) rfl
  have f_py1_10 := py_10.at_ (i := 1) (u := .slice Ay ny cy) rfl
  go_wp2_with fail
  refine (same_nil sy_s10).mono ?_
  rintro e w9 ⟨rfl, b9⟩
  clear f_pa0_10 f_pa1_10 f_pb0_10 f_pb1_10 f_py0_10 f_py1_10
  have pa_11 := pa_10.below b9 pa_10.lt
  have pb_11 := pb_10.below b9 pb_10.lt
  have px_11 := px_10.below b9 px_10.lt
  have py_11 := py_10.below b9 py_10.lt
  have sx_s11 := sx_s10.on b9
  have sy_s11 := sy_s10.on b9
  have k_11 := below_on k_10 b9
  go_wp2_with fail
  refine (draw_is x _ HD.out).mono ?_
  rintro e w' ⟨rfl, rfl⟩
  have f_px0_11 := px_11.at_ (i := 0) (u := .int .i64 0) rfl
  have f_px1_11 := px_11.at_ (i := 1) (u := .slice Ax nx cx) rfl
  go_wp2_with fail
  refine (same_nil sx_s11).mono ?_
  rintro e w12 ⟨rfl, b12⟩
  clear f_px0_11 f_px1_11
  have pa_12 := pa_11.below b12 pa_11.lt
  have pb_12 := pb_11.below b12 pb_11.lt
  have px_12 := px_11.below b12 px_11.lt
  have py_12 := py_11.below b12 py_11.lt
  have sx_s12 := sx_s11.on b12
  have sy_s12 := sy_s11.on b12
  have k_12 := below_on k_11 b12
  go_wp2_with fail
  go_ret
  exact ⟨rfl, k_12⟩
end
theorem law_bot (K : Int) (A : Option Addr) (n c : Nat) (xs : List Int) (K2 : Int) (A2 : Option Addr) (n2 c2 : Nat) (ys : List Int) (x : Int) (w : World) (h : Si w A n c xs) (h2 : Si w A2 n2 c2 ys) :
    Calls Try.prog 4 #[.agg #[.int .i64 K, .slice A n c], .agg #[.int .i64 K2, .slice A2 n2 c2], .int .i64 x] w fun e w' => e = .returned (.bool true) ∧ Below w.heap.size w w' := by
  by_cases h0 : botErr K n xs = 0
  · obtain ⟨k, rfl, _⟩ := up_room h.ilen h0
    by_cases h1 : botErr K2 n2 ys = 0
    · by_cases h3 : (k : Int) = K2
      · subst h3
        cases hd : isDraw x
        · exact law_bot_ok_false h h2 h0 h1 hd
        · exact law_bot_ok_true h h2 h0 h1 hd
      · cases hd : isDraw x
        · exact law_bot_ne_false h h2 h0 h1 h3 hd
        · exact law_bot_ne_true h h2 h0 h1 h3 hd
    · cases hd : isDraw x
      · exact law_bot_bad_false h h2 h0 rfl h1 hd
      · exact law_bot_bad_true h h2 h0 rfl h1 hd
  · exact law_bot_bad h h2 rfl h0
end Go.Proofs.Ytkliebhpdcjdgaa
