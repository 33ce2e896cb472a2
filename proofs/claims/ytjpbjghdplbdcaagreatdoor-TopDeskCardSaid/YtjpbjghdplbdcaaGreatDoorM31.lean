/- Proves the parts of the claim that its last text joins: Keep4. Conditions: those that each theorem names. -/
import Derived.Test.YtjpbjghdplbdcaaGreatDoorM13
import Derived.Test.YtjpbjghdplbdcaaGreatDoorM22
import Derived.Test.YtjpbjghdplbdcaaGreatDoorM30
section
namespace Go.Proofs.YtjpbjghdplbdcaaGreatDoor
open Go.RowKit Go.Shelf
set_option linter.unusedVariables false
theorem all2 {a b : Int} (ha : I64 a) (hb : I64 b) : AllI64 [a, b] := by
  intro x hx
  rcases List.mem_cons.1 hx with rfl | hx
  · exact ha
  · rw [List.mem_singleton] at hx; subst hx; exact hb
theorem bd_ne {w : World} {bd g : Nat} {a b : Array Value} {t1 t2 : TypeId} (h1 : Blk w bd t1 a) (h2 : Blk w g t2 b) (hne : a ≠ b := by (intro h; simp [deskV] at h)) : bd ≠ g := by
  rintro rfl
  have := h1.symm.trans h2
  injection this with this
  injection this with this
  exact hne this
theorem putted_is {s : DSt} {key v : Int} {y : Int × Int × Int × List Ct} (h : Putted 3 s.lost key v s.ctrs y) : fewR s key v = y := by
  unfold Putted at h
  unfold fewR
  split at h
  · rename_i h1; rw [if_pos h1]; exact h
  · rename_i h1
    obtain ⟨d, hd, h⟩ := h
    have hm : minC (addC key v s.ctrs) = d.2 := minC_is ⟨d, hd.1, rfl⟩ fun q hq => by
      obtain ⟨j, hj⟩ := List.getElem?_of_mem hq
      exact hd.2 j q (List.getElem?_eq_some_iff.1 hj).1 hj
    rw [if_neg h1, hm]; exact h
theorem finC_k {K L : Int} {m : List Ct} {E K' L' : Int} {l' : List Ct} (h : finC K L m = (E, K', L', l')) (h0 : E = 0) : K = K' := by
  unfold finC at h
  split at h
  · injection h with _ h; injection h
  · injection h with h; omega
theorem cput_any {w : World} {A : Option Addr} {n c : Nat} {s : DSt} {key v : Int} (h : Sp w A n c s.ctrs) (hB : DOk s) :
    Calls Tryz.prog 193 #[.agg #[.int .i64 3, .int .i64 s.lost, .slice A n c], .int .i64 key, .int .i64 v] w fun e w' => ∃ E K' L' zs A' n' c', e = .returned (.tuple #[.agg #[.int .i64 K', .int .i64 L', .slice A' n' c'], .int .i64 E]) ∧ Own w' w.heap.size 128 2 A' n' c' (prs zs) ∧ Below w.heap.size w w' ∧
      ((E = 0 ∧ 3 = K' ∧ fewS s key v = (0, { s with lost := L', ctrs := zs }, toldOf [(zs.length : Int), L'])) ∨ (E ≠ 0 ∧ fewS s key v = (E, s, []))) := by
  have h0 := hB.few
  rw [h.plen] at h0
  by_cases hv : v < 1 ∨ 1000000000000 < v
  · refine (fput_arg h h0 hv).mono ?_
    rintro e w' ⟨rfl, hb⟩
    exact ⟨_, _, _, [], none, 0, 0, rfl, Own.nil _ _ _ _, hb, .inr ⟨by decide, by unfold fewS; rw [if_pos hv]⟩⟩
  · refine (fput_own h (fwErr_ok h.plen h0) h0 (by omega) (by omega)).mono ?_
    rintro e w' ⟨E, K', L', A', n', c', l', rfl, ho, hp, hb⟩
    have hr := putted_is hp
    refine ⟨E, K', L', l', A', n', c', rfl, ho, hb, ?_⟩
    by_cases hE : E = 0
    · subst hE
      refine .inl ⟨rfl, ?_, by unfold fewS; rw [if_neg hv, hr, if_pos rfl]⟩
      unfold fewR at hr
      split at hr
      · exact finC_k hr rfl
      · exact finC_k hr rfl
    · exact .inr ⟨hE, by unfold fewS; rw [if_neg hv, hr, if_neg hE]⟩
def ktold_ops : Array Oper := #[{ dst := some 22, op := Op.load 39 (Operand.tmp 0), type := 39, pos := "desk.go:213", after := #[], guard := none },
  { dst := some 23, op := Op.nilCheck (Operand.tmp 22), type := 0, pos := "desk.go:213", after := #[{ on := 0, ground := Ground.data }], guard := none },
  { dst := some 24, op := Op.fieldAddr 50 (Operand.tmp 23) 0, type := 0, pos := "desk.go:213", after := #[{ on := 1, ground := Ground.data }], guard := none },
  { dst := some 25, op := Op.fieldAddr 42 (Operand.tmp 24) 2, type := 0, pos := "desk.go:213", after := #[{ on := 2, ground := Ground.data }], guard := none },
  { dst := some 26, op := Op.load 40 (Operand.tmp 25), type := 40, pos := "desk.go:213", after := #[{ on := 3, ground := Ground.data }], guard := none },
  { dst := some 27, op := Op.call { callee := Callee.builtin Builtin.len, args := #[Operand.tmp 26], argTypes := #[40] }, type := 3, pos := "desk.go:213", after := #[{ on := 4, ground := Ground.data }], guard := none },
  { dst := some 28, op := Op.load 39 (Operand.tmp 0), type := 39, pos := "desk.go:213", after := #[], guard := none },
  { dst := some 29, op := Op.nilCheck (Operand.tmp 28), type := 0, pos := "desk.go:213", after := #[{ on := 6, ground := Ground.data }], guard := none },
  { dst := some 30, op := Op.fieldAddr 50 (Operand.tmp 29) 0, type := 0, pos := "desk.go:213", after := #[{ on := 7, ground := Ground.data }], guard := none },
  { dst := some 31, op := Op.fieldAddr 42 (Operand.tmp 30) 1, type := 0, pos := "desk.go:213", after := #[{ on := 8, ground := Ground.data }], guard := none },
  { dst := some 32, op := Op.load 3 (Operand.tmp 31), type := 3, pos := "desk.go:213", after := #[{ on := 9, ground := Ground.data }], guard := none },
  { dst := some 33, op := Op.buildSlice 43 2 #[(0, Operand.tmp 27), (1, Operand.tmp 32)], type := 43, pos := "desk.go:213", after := #[{ on := 5, ground := Ground.data }, { on := 10, ground := Ground.data }], guard := none },
  { dst := some 34, op := Op.call { callee := Callee.value (Operand.func 91), args := #[Operand.tmp 33], argTypes := #[43] }, type := 9, pos := "desk.go:213", after := #[{ on := 11, ground := Ground.data }], guard := none },
  { dst := some 3, op := Op.assign (Operand.tmp 34), type := 9, pos := "desk.go:213", after := #[{ on := 12, ground := Ground.data }, { on := 12, ground := Ground.chain }, { on := 0, ground := Ground.phase }, { on := 1, ground := Ground.phase }, { on := 2, ground := Ground.phase }, { on := 3, ground := Ground.phase }, { on := 4, ground := Ground.phase }, { on := 5, ground := Ground.phase }, { on := 6, ground := Ground.phase }, { on := 7, ground := Ground.phase }, { on := 8, ground := Ground.phase }, { on := 9, ground := Ground.phase }, { on := 10, ground := Ground.phase }, { on := 11, ground := Ground.phase }, { on := 12, ground := Ground.phase }], guard := none }]
set_option maxRecDepth 100000 in
set_option maxHeartbeats 3200000 in
theorem ktold_11 {w0 : World} {g bd b N cN : Nat} {L : Int} {AN : Option Addr} (hL : LibW b w0) (hbw : b ≤ w0.heap.size) (hN : N ≤ 1000) (hL0 : I64 L) (hg : g < w0.heap.size) (hbd : bd < w0.heap.size) (qd : w0.cell? ⟨bd, 0, none⟩ = some (.pointer (some ⟨g, 0, none⟩))) (c1 : w0.cell? ⟨g, 1, none⟩ = some (.int .i64 L)) (c2 : w0.cell? ⟨g, 2, none⟩ = some (.slice AN N cN)) {x1 x2 x3 x4 x5 x6 x7 x8 x9 x10 x11 x12 x13 x14 x15 x16 x17 x18 x19 x20 x21 x34 : Value} {df : List Deferred} {Q : Exit → Act → World → Prop} (hQp : ∀ c (a : Act) d v w, Q (.panic c) (a.put d v) w → Q (.panic c) a w)
    (hfin : ∀ (gb : Nat) (z : World), Below w0.heap.size w0 z → Q .normal { tmps := #[.pointer (some ⟨bd, 0, none⟩), x1, x2, .string (tx (toldOf [(N : Int), L])), x4, x5, x6, x7, x8, x9, x10, x11, x12, x13, x14, x15, x16, x17, x18, x19, x20, x21, .pointer (some ⟨g, 0, none⟩), .pointer (some ⟨g, 0, none⟩), .pointer (some ⟨g, 0, none⟩), .pointer (some ⟨g, 2, none⟩), .slice AN N cN, .int .i64 (N : Int), .pointer (some ⟨g, 0, none⟩), .pointer (some ⟨g, 0, none⟩), .pointer (some ⟨g, 0, none⟩), .pointer (some ⟨g, 1, none⟩), .int .i64 L, .slice (some ⟨gb, 0, none⟩) 2 2, .string (tx (toldOf [(N : Int), L]))], defers := df } z)
    {gb : Nat} {kk : Nat} {ll : Array Bool} {aa : Act} {W : World} (hk : kk = 2) (hl : ll = #[true, true, true, true, true, true, true, true, true, true, true, true, false, false])
    (ha : aa = { tmps := #[.pointer (some ⟨bd, 0, none⟩), x1, x2, x3, x4, x5, x6, x7, x8, x9, x10, x11, x12, x13, x14, x15, x16, x17, x18, x19, x20, x21, .pointer (some ⟨g, 0, none⟩), .pointer (some ⟨g, 0, none⟩), .pointer (some ⟨g, 0, none⟩), .pointer (some ⟨g, 2, none⟩), .slice AN N cN, .int .i64 (N : Int), .pointer (some ⟨g, 0, none⟩), .pointer (some ⟨g, 0, none⟩), .pointer (some ⟨g, 0, none⟩), .pointer (some ⟨g, 1, none⟩), .int .i64 L, .slice (some ⟨gb, 0, none⟩) 2 2, x34], defers := df })
    (kb : Below w0.heap.size w0 W) (bL : Blk W gb 3 #[.int .i64 (N : Int), .int .i64 L]) :
    anyTill Tryz.prog .any ktold_ops Q (Till (fun w' => w'.cell? ⟨bd, 0, none⟩ = some (.pointer (some ⟨g, 0, none⟩)) ∧ w'.cell? ⟨g, 1, none⟩ = some (.int .i64 L) ∧ w'.cell? ⟨g, 2, none⟩ = some (.slice AN N cN)) (fun _ => True) []) kk ll aa W := by
  subst hk hl ha
  refine anyTill.ready (rs := [12]) (by kernel_rfl) (by simp) ?_
  refine AllTill.cons (o := { dst := some 34, op := Op.call { callee := Callee.value (Operand.func 91), args := #[Operand.tmp 33], argTypes := #[43] }, type := 9, pos := "desk.go:213", after := #[{ on := 11, ground := Ground.data }], guard := none }) rfl (fun K hK => ?_) AllTill.nil
  · go_wp2_with fail
    go_at_call 91
    have hsl : Si W (some ⟨gb, 0, none⟩) 2 2 [(N : Int), L] := Sl.blk (cs := ints [(N : Int), L]) 1 2 bL rfl (by simp [maxLen])
    have hsz := kb.size
    refine (told_any (hL.on kb hbw) (by omega) hsl (by omega) (all2 (by unfold I64; omega) hL0)).mono ?_
    rintro e z ⟨rfl, be⟩
    have ke : Below W.heap.size W z := below_on (by repeat' (first | assumption | with_reducible exact Below.refl _ _ | with_reducible apply Below.drew | with_reducible apply below_drewN | with_reducible apply below_alloc | with_reducible refine below_set ?_ ?_ _ | (simp only [World.size_alloc, World.heap_drewN]; omega) | (simp; omega))) be
    have n_kb : Below w0.heap.size w0 z := below_on kb ke
    refine hK.out _ _ (Till.over (by rfl) (by (refine ⟨kept (B := w0.heap.size) (p := ⟨bd, 0, none⟩) hbd qd ?_, kept (B := w0.heap.size) (p := ⟨g, 1, none⟩) hg c1 ?_, kept (B := w0.heap.size) (p := ⟨g, 2, none⟩) hg c2 ?_⟩ <;> repeat' (first | assumption | with_reducible exact Below.refl _ _ | with_reducible apply Below.drew | with_reducible apply below_drewN | with_reducible apply below_alloc | with_reducible refine below_set ?_ ?_ _ | (simp only [World.size_alloc, World.heap_drewN]; omega) | (simp; omega))))) (fun hS => ?_)
    clear hK K
    try simp only [Act.put, List.setIfInBounds_toArray, List.set_cons_zero, List.set_cons_succ]
    refine anyTill.last (i := 13) (oi := { dst := some 3, op := Op.assign (Operand.tmp 34), type := 9, pos := "desk.go:213", after := #[{ on := 12, ground := Ground.data }, { on := 12, ground := Ground.chain }, { on := 0, ground := Ground.phase }, { on := 1, ground := Ground.phase }, { on := 2, ground := Ground.phase }, { on := 3, ground := Ground.phase }, { on := 4, ground := Ground.phase }, { on := 5, ground := Ground.phase }, { on := 6, ground := Ground.phase }, { on := 7, ground := Ground.phase }, { on := 8, ground := Ground.phase }, { on := 9, ground := Ground.phase }, { on := 10, ground := Ground.phase }, { on := 11, ground := Ground.phase }, { on := 12, ground := Ground.phase }], guard := none }) (v := ?_) rfl (by kernel_rfl) (by kernel_rfl) (by kernel_rfl) (fun _ _ _ h => hQp _ _ _ _ _ h) (by rfl) (Or.inl ⟨by rfl, ?_⟩) hS (fun hS => ?_)
    rotate_left
    · (intro w hSw; (try dsimp only at hSw); go_split_ands; go_simp; try with_reducible rfl)
    try simp only [Act.put, List.setIfInBounds_toArray, List.set_cons_zero, List.set_cons_succ]
    refine anyTill.fin (by kernel_rfl) ?_ _
    exact hfin _ _ n_kb
set_option maxRecDepth 100000 in
set_option maxHeartbeats 3200000 in
theorem ktold_o {w0 : World} {g bd b N cN : Nat} {L : Int} {AN : Option Addr} (hL : LibW b w0) (hbw : b ≤ w0.heap.size) (hN : N ≤ 1000) (hL0 : I64 L) (hg : g < w0.heap.size) (hbd : bd < w0.heap.size) (qd : w0.cell? ⟨bd, 0, none⟩ = some (.pointer (some ⟨g, 0, none⟩))) (c1 : w0.cell? ⟨g, 1, none⟩ = some (.int .i64 L)) (c2 : w0.cell? ⟨g, 2, none⟩ = some (.slice AN N cN)) {x1 x2 x3 x4 x5 x6 x7 x8 x9 x10 x11 x12 x13 x14 x15 x16 x17 x18 x19 x20 x21 x33 x34 : Value} {df : List Deferred} {Q : Exit → Act → World → Prop} (hQp : ∀ c (a : Act) d v w, Q (.panic c) (a.put d v) w → Q (.panic c) a w)
    (hfin : ∀ (gb : Nat) (z : World), Below w0.heap.size w0 z → Q .normal { tmps := #[.pointer (some ⟨bd, 0, none⟩), x1, x2, .string (tx (toldOf [(N : Int), L])), x4, x5, x6, x7, x8, x9, x10, x11, x12, x13, x14, x15, x16, x17, x18, x19, x20, x21, .pointer (some ⟨g, 0, none⟩), .pointer (some ⟨g, 0, none⟩), .pointer (some ⟨g, 0, none⟩), .pointer (some ⟨g, 2, none⟩), .slice AN N cN, .int .i64 (N : Int), .pointer (some ⟨g, 0, none⟩), .pointer (some ⟨g, 0, none⟩), .pointer (some ⟨g, 0, none⟩), .pointer (some ⟨g, 1, none⟩), .int .i64 L, .slice (some ⟨gb, 0, none⟩) 2 2, .string (tx (toldOf [(N : Int), L]))], defers := df } z)
     {kk : Nat} {ll : Array Bool} {aa : Act} {W : World} (hk : kk = 3) (hl : ll = #[true, true, true, true, true, true, true, true, true, true, true, false, false, false])
    (ha : aa = { tmps := #[.pointer (some ⟨bd, 0, none⟩), x1, x2, x3, x4, x5, x6, x7, x8, x9, x10, x11, x12, x13, x14, x15, x16, x17, x18, x19, x20, x21, .pointer (some ⟨g, 0, none⟩), .pointer (some ⟨g, 0, none⟩), .pointer (some ⟨g, 0, none⟩), .pointer (some ⟨g, 2, none⟩), .slice AN N cN, .int .i64 (N : Int), .pointer (some ⟨g, 0, none⟩), .pointer (some ⟨g, 0, none⟩), .pointer (some ⟨g, 0, none⟩), .pointer (some ⟨g, 1, none⟩), .int .i64 L, x33, x34], defers := df })
    (kb : Below w0.heap.size w0 W) :
    anyTill Tryz.prog .any ktold_ops Q (Till (fun w' => w'.cell? ⟨bd, 0, none⟩ = some (.pointer (some ⟨g, 0, none⟩)) ∧ w'.cell? ⟨g, 1, none⟩ = some (.int .i64 L) ∧ w'.cell? ⟨g, 2, none⟩ = some (.slice AN N cN)) (fun _ => True) []) kk ll aa W := by
  subst hk hl ha
  refine anyTill.ready (rs := [11]) (by kernel_rfl) (by simp) ?_
  refine AllTill.cons (o := { dst := some 33, op := Op.buildSlice 43 2 #[(0, Operand.tmp 27), (1, Operand.tmp 32)], type := 43, pos := "desk.go:213", after := #[{ on := 5, ground := Ground.data }, { on := 10, ground := Ground.data }], guard := none }) rfl (fun K hK => ?_) AllTill.nil
  · go_simp
    refine at_wd ?_
    intro z hz
    have ke : Below W.heap.size W z := by rw [hz]; repeat' (first | assumption | with_reducible exact Below.refl _ _ | with_reducible apply Below.drew | with_reducible apply below_drewN | with_reducible apply below_alloc | with_reducible refine below_set ?_ ?_ _ | (simp only [World.size_alloc, World.heap_drewN]; omega) | (simp; omega))
    have hsz := kb.size
    have n_kb : Below w0.heap.size w0 z := below_on kb ke
    have n_bL : Blk z W.heap.size 3 #[.int .i64 (N : Int), .int .i64 L] := by rw [hz]; exact Blk.new _ _ _
    refine hK.out _ _ (Till.over (by rfl) (by (refine ⟨kept (B := w0.heap.size) (p := ⟨bd, 0, none⟩) hbd qd ?_, kept (B := w0.heap.size) (p := ⟨g, 1, none⟩) hg c1 ?_, kept (B := w0.heap.size) (p := ⟨g, 2, none⟩) hg c2 ?_⟩ <;> repeat' (first | assumption | with_reducible exact Below.refl _ _ | with_reducible apply Below.drew | with_reducible apply below_drewN | with_reducible apply below_alloc | with_reducible refine below_set ?_ ?_ _ | (simp only [World.size_alloc, World.heap_drewN]; omega) | (simp; omega))))) (fun hS => ?_)
    clear hK K
    try simp only [Act.put, List.setIfInBounds_toArray, List.set_cons_zero, List.set_cons_succ]
    exact ktold_11 hL hbw hN hL0 hg hbd qd c1 c2 hQp hfin (by rfl) (by kernel_rfl) (by rfl) n_kb n_bL
set_option maxRecDepth 100000 in
set_option maxHeartbeats 3200000 in
theorem ktold_start {w0 : World} {g bd b N cN : Nat} {L : Int} {AN : Option Addr} (hL : LibW b w0) (hbw : b ≤ w0.heap.size) (hN : N ≤ 1000) (hL0 : I64 L) (hg : g < w0.heap.size) (hbd : bd < w0.heap.size) (qd : w0.cell? ⟨bd, 0, none⟩ = some (.pointer (some ⟨g, 0, none⟩))) (c1 : w0.cell? ⟨g, 1, none⟩ = some (.int .i64 L)) (c2 : w0.cell? ⟨g, 2, none⟩ = some (.slice AN N cN)) {x1 x2 x3 x4 x5 x6 x7 x8 x9 x10 x11 x12 x13 x14 x15 x16 x17 x18 x19 x20 x21 x22 x23 x24 x25 x26 x27 x28 x29 x30 x31 x32 x33 x34 : Value} {df : List Deferred} {Q : Exit → Act → World → Prop} (hQp : ∀ c (a : Act) d v w, Q (.panic c) (a.put d v) w → Q (.panic c) a w)
    (hfin : ∀ (gb : Nat) (z : World), Below w0.heap.size w0 z → Q .normal { tmps := #[.pointer (some ⟨bd, 0, none⟩), x1, x2, .string (tx (toldOf [(N : Int), L])), x4, x5, x6, x7, x8, x9, x10, x11, x12, x13, x14, x15, x16, x17, x18, x19, x20, x21, .pointer (some ⟨g, 0, none⟩), .pointer (some ⟨g, 0, none⟩), .pointer (some ⟨g, 0, none⟩), .pointer (some ⟨g, 2, none⟩), .slice AN N cN, .int .i64 (N : Int), .pointer (some ⟨g, 0, none⟩), .pointer (some ⟨g, 0, none⟩), .pointer (some ⟨g, 0, none⟩), .pointer (some ⟨g, 1, none⟩), .int .i64 L, .slice (some ⟨gb, 0, none⟩) 2 2, .string (tx (toldOf [(N : Int), L]))], defers := df } z)
     {kk : Nat} {ll : Array Bool} {aa : Act} {W : World} (hk : kk = 14) (hl : ll = #[false, false, false, false, false, false, false, false, false, false, false, false, false, false])
    (ha : aa = { tmps := #[.pointer (some ⟨bd, 0, none⟩), x1, x2, x3, x4, x5, x6, x7, x8, x9, x10, x11, x12, x13, x14, x15, x16, x17, x18, x19, x20, x21, x22, x23, x24, x25, x26, x27, x28, x29, x30, x31, x32, x33, x34], defers := df })
    (kb : Below w0.heap.size w0 W) :
    anyTill Tryz.prog .any ktold_ops Q (Till (fun w' => w'.cell? ⟨bd, 0, none⟩ = some (.pointer (some ⟨g, 0, none⟩)) ∧ w'.cell? ⟨g, 1, none⟩ = some (.int .i64 L) ∧ w'.cell? ⟨g, 2, none⟩ = some (.slice AN N cN)) (fun _ => True) []) kk ll aa W := by
  subst hk hl ha
  refine anyTill.last (i := 0) (oi := { dst := some 22, op := Op.load 39 (Operand.tmp 0), type := 39, pos := "desk.go:213", after := #[], guard := none }) (v := ?_) rfl (by kernel_rfl) (by kernel_rfl) (by kernel_rfl) (fun _ _ _ h => hQp _ _ _ _ _ h) (by rfl) (Or.inl ⟨by rfl, ?_⟩) ⟨by (refine ⟨kept (B := w0.heap.size) (p := ⟨bd, 0, none⟩) hbd qd ?_, kept (B := w0.heap.size) (p := ⟨g, 1, none⟩) hg c1 ?_, kept (B := w0.heap.size) (p := ⟨g, 2, none⟩) hg c2 ?_⟩ <;> repeat' (first | assumption | with_reducible exact Below.refl _ _ | with_reducible apply Below.drew | with_reducible apply below_drewN | with_reducible apply below_alloc | with_reducible refine below_set ?_ ?_ _ | (simp only [World.size_alloc, World.heap_drewN]; omega) | (simp; omega))), fun _ => by trivial⟩ (fun hS => ?_)
  rotate_left
  · (intro w hSw; (try dsimp only at hSw); go_split_ands; go_simp; try with_reducible rfl)
  try simp only [Act.put, List.setIfInBounds_toArray, List.set_cons_zero, List.set_cons_succ]
  refine anyTill.last (i := 1) (oi := { dst := some 23, op := Op.nilCheck (Operand.tmp 22), type := 0, pos := "desk.go:213", after := #[{ on := 0, ground := Ground.data }], guard := none }) (v := ?_) rfl (by kernel_rfl) (by kernel_rfl) (by kernel_rfl) (fun _ _ _ h => hQp _ _ _ _ _ h) (by rfl) (Or.inl ⟨by rfl, ?_⟩) hS (fun hS => ?_)
  rotate_left
  · (intro w hSw; (try dsimp only at hSw); go_split_ands; go_simp; try with_reducible rfl)
  try simp only [Act.put, List.setIfInBounds_toArray, List.set_cons_zero, List.set_cons_succ]
  refine anyTill.last (i := 2) (oi := { dst := some 24, op := Op.fieldAddr 50 (Operand.tmp 23) 0, type := 0, pos := "desk.go:213", after := #[{ on := 1, ground := Ground.data }], guard := none }) (v := ?_) rfl (by kernel_rfl) (by kernel_rfl) (by kernel_rfl) (fun _ _ _ h => hQp _ _ _ _ _ h) (by rfl) (Or.inl ⟨by rfl, ?_⟩) hS (fun hS => ?_)
  rotate_left
  · (intro w hSw; (try dsimp only at hSw); go_split_ands; go_simp; try with_reducible rfl)
  try simp only [Act.put, List.setIfInBounds_toArray, List.set_cons_zero, List.set_cons_succ]
  refine anyTill.last (i := 3) (oi := { dst := some 25, op := Op.fieldAddr 42 (Operand.tmp 24) 2, type := 0, pos := "desk.go:213", after := #[{ on := 2, ground := Ground.data }], guard := none }) (v := ?_) rfl (by kernel_rfl) (by kernel_rfl) (by kernel_rfl) (fun _ _ _ h => hQp _ _ _ _ _ h) (by rfl) (Or.inl ⟨by rfl, ?_⟩) hS (fun hS => ?_)
  rotate_left
  · (intro w hSw; (try dsimp only at hSw); go_split_ands; go_simp; try with_reducible rfl)
  try simp only [Act.put, List.setIfInBounds_toArray, List.set_cons_zero, List.set_cons_succ]
  refine anyTill.last (i := 4) (oi := { dst := some 26, op := Op.load 40 (Operand.tmp 25), type := 40, pos := "desk.go:213", after := #[{ on := 3, ground := Ground.data }], guard := none }) (v := ?_) rfl (by kernel_rfl) (by kernel_rfl) (by kernel_rfl) (fun _ _ _ h => hQp _ _ _ _ _ h) (by rfl) (Or.inl ⟨by rfl, ?_⟩) hS (fun hS => ?_)
  rotate_left
  · (intro w hSw; (try dsimp only at hSw); go_split_ands; go_simp; try with_reducible rfl)
  try simp only [Act.put, List.setIfInBounds_toArray, List.set_cons_zero, List.set_cons_succ]
  refine anyTill.last (i := 5) (oi := { dst := some 27, op := Op.call { callee := Callee.builtin Builtin.len, args := #[Operand.tmp 26], argTypes := #[40] }, type := 3, pos := "desk.go:213", after := #[{ on := 4, ground := Ground.data }], guard := none }) (v := ?_) rfl (by kernel_rfl) (by kernel_rfl) (by kernel_rfl) (fun _ _ _ h => hQp _ _ _ _ _ h) (by rfl) (Or.inl ⟨by rfl, ?_⟩) hS (fun hS => ?_)
  rotate_left
  · (intro w hSw; (try dsimp only at hSw); go_split_ands; go_simp; try with_reducible rfl)
  try simp only [Act.put, List.setIfInBounds_toArray, List.set_cons_zero, List.set_cons_succ]
  refine anyTill.last (i := 6) (oi := { dst := some 28, op := Op.load 39 (Operand.tmp 0), type := 39, pos := "desk.go:213", after := #[], guard := none }) (v := ?_) rfl (by kernel_rfl) (by kernel_rfl) (by kernel_rfl) (fun _ _ _ h => hQp _ _ _ _ _ h) (by rfl) (Or.inl ⟨by rfl, ?_⟩) hS (fun hS => ?_)
  rotate_left
  · (intro w hSw; (try dsimp only at hSw); go_split_ands; go_simp; try with_reducible rfl)
  try simp only [Act.put, List.setIfInBounds_toArray, List.set_cons_zero, List.set_cons_succ]
  refine anyTill.last (i := 7) (oi := { dst := some 29, op := Op.nilCheck (Operand.tmp 28), type := 0, pos := "desk.go:213", after := #[{ on := 6, ground := Ground.data }], guard := none }) (v := ?_) rfl (by kernel_rfl) (by kernel_rfl) (by kernel_rfl) (fun _ _ _ h => hQp _ _ _ _ _ h) (by rfl) (Or.inl ⟨by rfl, ?_⟩) hS (fun hS => ?_)
  rotate_left
  · (intro w hSw; (try dsimp only at hSw); go_split_ands; go_simp; try with_reducible rfl)
  try simp only [Act.put, List.setIfInBounds_toArray, List.set_cons_zero, List.set_cons_succ]
  refine anyTill.last (i := 8) (oi := { dst := some 30, op := Op.fieldAddr 50 (Operand.tmp 29) 0, type := 0, pos := "desk.go:213", after := #[{ on := 7, ground := Ground.data }], guard := none }) (v := ?_) rfl (by kernel_rfl) (by kernel_rfl) (by kernel_rfl) (fun _ _ _ h => hQp _ _ _ _ _ h) (by rfl) (Or.inl ⟨by rfl, ?_⟩) hS (fun hS => ?_)
  rotate_left
  · (intro w hSw; (try dsimp only at hSw); go_split_ands; go_simp; try with_reducible rfl)
  try simp only [Act.put, List.setIfInBounds_toArray, List.set_cons_zero, List.set_cons_succ]
  refine anyTill.last (i := 9) (oi := { dst := some 31, op := Op.fieldAddr 42 (Operand.tmp 30) 1, type := 0, pos := "desk.go:213", after := #[{ on := 8, ground := Ground.data }], guard := none }) (v := ?_) rfl (by kernel_rfl) (by kernel_rfl) (by kernel_rfl) (fun _ _ _ h => hQp _ _ _ _ _ h) (by rfl) (Or.inl ⟨by rfl, ?_⟩) hS (fun hS => ?_)
  rotate_left
  · (intro w hSw; (try dsimp only at hSw); go_split_ands; go_simp; try with_reducible rfl)
  try simp only [Act.put, List.setIfInBounds_toArray, List.set_cons_zero, List.set_cons_succ]
  refine anyTill.last (i := 10) (oi := { dst := some 32, op := Op.load 3 (Operand.tmp 31), type := 3, pos := "desk.go:213", after := #[{ on := 9, ground := Ground.data }], guard := none }) (v := ?_) rfl (by kernel_rfl) (by kernel_rfl) (by kernel_rfl) (fun _ _ _ h => hQp _ _ _ _ _ h) (by rfl) (Or.inl ⟨by rfl, ?_⟩) hS (fun hS => ?_)
  rotate_left
  · (intro w hSw; (try dsimp only at hSw); go_split_ands; go_simp; try with_reducible rfl)
  try simp only [Act.put, List.setIfInBounds_toArray, List.set_cons_zero, List.set_cons_succ]
  exact ktold_o hL hbw hN hL0 hg hbd qd c1 c2 hQp hfin (by rfl) (by kernel_rfl) (by rfl) kb
def kfew_ops : Array Oper := #[{ dst := some 7, op := Op.load 39 (Operand.tmp 0), type := 39, pos := "desk.go:210", after := #[], guard := none },
  { dst := some 8, op := Op.nilCheck (Operand.tmp 7), type := 0, pos := "desk.go:210", after := #[{ on := 0, ground := Ground.data }], guard := none },
  { dst := some 9, op := Op.fieldAddr 50 (Operand.tmp 8) 0, type := 0, pos := "desk.go:210", after := #[{ on := 1, ground := Ground.data }], guard := none },
  { dst := some 10, op := Op.load 42 (Operand.tmp 9), type := 42, pos := "desk.go:210", after := #[{ on := 2, ground := Ground.data }], guard := none },
  { dst := some 11, op := Op.load 3 (Operand.tmp 1), type := 3, pos := "desk.go:210", after := #[], guard := none },
  { dst := some 12, op := Op.load 3 (Operand.tmp 2), type := 3, pos := "desk.go:210", after := #[], guard := none },
  { dst := some 13, op := Op.call { callee := Callee.value (Operand.func 193), args := #[Operand.tmp 10, Operand.tmp 11, Operand.tmp 12], argTypes := #[42, 3, 3] }, type := 122, pos := "desk.go:210", after := #[{ on := 3, ground := Ground.data }, { on := 4, ground := Ground.data }, { on := 5, ground := Ground.data }], guard := none },
  { dst := some 6, op := Op.move (Operand.tmp 13), type := 122, pos := "desk.go:210", after := #[{ on := 6, ground := Ground.data }], guard := none },
  { dst := some 14, op := Op.extract (Operand.tmp 6) 0, type := 42, pos := "desk.go:210", after := #[{ on := 7, ground := Ground.data }], guard := none },
  { dst := some 15, op := Op.extract (Operand.tmp 6) 1, type := 64, pos := "desk.go:210", after := #[{ on := 7, ground := Ground.data }, { on := 11, ground := Ground.gcOnly Departure.lateStores }], guard := none },
  { dst := some 4, op := Op.alloc 42, type := 0, pos := "desk.go:210", after := #[], guard := none },
  { dst := none, op := Op.store 42 (Operand.tmp 4) (Operand.tmp 14), type := 0, pos := "desk.go:210", after := #[{ on := 10, ground := Ground.data }, { on := 8, ground := Ground.data }, { on := 6, ground := Ground.chain }, { on := 0, ground := Ground.phase }, { on := 1, ground := Ground.phase }, { on := 2, ground := Ground.phase }, { on := 3, ground := Ground.phase }, { on := 4, ground := Ground.phase }, { on := 5, ground := Ground.phase }, { on := 6, ground := Ground.phase }, { on := 7, ground := Ground.phase }, { on := 8, ground := Ground.phase }, { on := 9, ground := Ground.textOnly Departure.lateStores }, { on := 10, ground := Ground.phase }], guard := none },
  { dst := some 5, op := Op.assign (Operand.tmp 15), type := 64, pos := "desk.go:210", after := #[{ on := 9, ground := Ground.data }, { on := 11, ground := Ground.chain }, { on := 0, ground := Ground.phase }, { on := 1, ground := Ground.phase }, { on := 2, ground := Ground.phase }, { on := 3, ground := Ground.phase }, { on := 4, ground := Ground.phase }, { on := 5, ground := Ground.phase }, { on := 6, ground := Ground.phase }, { on := 7, ground := Ground.phase }, { on := 8, ground := Ground.phase }, { on := 9, ground := Ground.phase }, { on := 10, ground := Ground.phase }, { on := 11, ground := Ground.phase }], guard := none }]
set_option maxRecDepth 100000 in
set_option maxHeartbeats 3200000 in
theorem kfew_6_10 {w0 : World} {g bd bx by_ : Nat} {s : DSt} {Ac : Option Addr} {nc cc : Nat} {key v : Int} (hs : Sl w0 w0.heap.size 2 Ac nc cc (prs s.ctrs)) (hB : DOk s) (hg : g < w0.heap.size) (hbd : bd < w0.heap.size) (hbx : bx < w0.heap.size) (hby_ : by_ < w0.heap.size) (qd : w0.cell? ⟨bd, 0, none⟩ = some (.pointer (some ⟨g, 0, none⟩))) (qbx : w0.cell? ⟨bx, 0, none⟩ = some (.int .i64 key)) (qby_ : w0.cell? ⟨by_, 0, none⟩ = some (.int .i64 v)) (c0 : w0.cell? ⟨g, 0, none⟩ = some (.int .i64 3)) (c1 : w0.cell? ⟨g, 1, none⟩ = some (.int .i64 s.lost)) (c2 : w0.cell? ⟨g, 2, none⟩ = some (.slice Ac nc cc)) {x3 x5 x16 x17 x18 x19 x20 x21 x22 x23 x24 x25 x26 x27 x28 x29 x30 x31 x32 x33 x34 : Value} {df : List Deferred} {Q : Exit → Act → World → Prop} (hQp : ∀ c (a : Act) d v w, Q (.panic c) (a.put d v) w → Q (.panic c) a w)
    (hfin : ∀ (E : Int) (K' : Int) (L' : Int) (zs : List Ct) (A' : Option Addr) (n' : Nat) (c' : Nat) (gy : Nat) (z : World), Blk z gy 42 #[.int .i64 K', .int .i64 L', .slice A' n' c'] → Own z w0.heap.size 128 2 A' n' c' (prs zs) → (E = 0 ∧ 3 = K' ∧ fewS s key v = (0, { s with lost := L', ctrs := zs }, toldOf [(zs.length : Int), L'])) ∨ (E ≠ 0 ∧ fewS s key v = (E, s, [])) → w0.heap.size ≤ gy → Below w0.heap.size w0 z → Q .normal { tmps := #[.pointer (some ⟨bd, 0, none⟩), .pointer (some ⟨bx, 0, none⟩), .pointer (some ⟨by_, 0, none⟩), x3, .pointer (some ⟨gy, 0, none⟩), .int .i64 E, .tuple #[.agg #[.int .i64 K', .int .i64 L', .slice A' n' c'], .int .i64 E], .pointer (some ⟨g, 0, none⟩), .pointer (some ⟨g, 0, none⟩), .pointer (some ⟨g, 0, none⟩), .agg #[.int .i64 3, .int .i64 s.lost, .slice Ac nc cc], .int .i64 key, .int .i64 v, .tuple #[.agg #[.int .i64 K', .int .i64 L', .slice A' n' c'], .int .i64 E], .agg #[.int .i64 K', .int .i64 L', .slice A' n' c'], .int .i64 E, x16, x17, x18, x19, x20, x21, x22, x23, x24, x25, x26, x27, x28, x29, x30, x31, x32, x33, x34], defers := df } z)
    {E : Int} {K' : Int} {L' : Int} {zs : List Ct} {A' : Option Addr} {n' : Nat} {c' : Nat} {gy : Nat} {kk : Nat} {ll : Array Bool} {aa : Act} {W : World} (hk : kk = 2) (hl : ll = #[true, true, true, true, true, true, true, true, true, true, true, false, false])
    (ha : aa = { tmps := #[.pointer (some ⟨bd, 0, none⟩), .pointer (some ⟨bx, 0, none⟩), .pointer (some ⟨by_, 0, none⟩), x3, .pointer (some ⟨gy, 0, none⟩), x5, .tuple #[.agg #[.int .i64 K', .int .i64 L', .slice A' n' c'], .int .i64 E], .pointer (some ⟨g, 0, none⟩), .pointer (some ⟨g, 0, none⟩), .pointer (some ⟨g, 0, none⟩), .agg #[.int .i64 3, .int .i64 s.lost, .slice Ac nc cc], .int .i64 key, .int .i64 v, .tuple #[.agg #[.int .i64 K', .int .i64 L', .slice A' n' c'], .int .i64 E], .agg #[.int .i64 K', .int .i64 L', .slice A' n' c'], .int .i64 E, x16, x17, x18, x19, x20, x21, x22, x23, x24, x25, x26, x27, x28, x29, x30, x31, x32, x33, x34], defers := df })
    (kb : Below w0.heap.size w0 W) (oR : Own W w0.heap.size 128 2 A' n' c' (prs zs)) (hF : (E = 0 ∧ 3 = K' ∧ fewS s key v = (0, { s with lost := L', ctrs := zs }, toldOf [(zs.length : Int), L'])) ∨ (E ≠ 0 ∧ fewS s key v = (E, s, []))) (bY : Blk W gy 42 #[.int .i64 0, .int .i64 0, .slice none 0 0]) (hgy : w0.heap.size ≤ gy) :
    anyTill Tryz.prog .any kfew_ops Q (Till (fun w' => w'.cell? ⟨bd, 0, none⟩ = some (.pointer (some ⟨g, 0, none⟩)) ∧ w'.cell? ⟨bx, 0, none⟩ = some (.int .i64 key) ∧ w'.cell? ⟨by_, 0, none⟩ = some (.int .i64 v) ∧ w'.cell? ⟨g, 0, none⟩ = some (.int .i64 3) ∧ w'.cell? ⟨g, 1, none⟩ = some (.int .i64 s.lost) ∧ w'.cell? ⟨g, 2, none⟩ = some (.slice Ac nc cc)) (fun _ => True) []) kk ll aa W := by
  subst hk hl ha
  refine anyTill.ready (rs := [11]) (by kernel_rfl) (by simp) ?_
  refine AllTill.cons (o := { dst := none, op := Op.store 42 (Operand.tmp 4) (Operand.tmp 14), type := 0, pos := "desk.go:210", after := #[{ on := 10, ground := Ground.data }, { on := 8, ground := Ground.data }, { on := 6, ground := Ground.chain }, { on := 0, ground := Ground.phase }, { on := 1, ground := Ground.phase }, { on := 2, ground := Ground.phase }, { on := 3, ground := Ground.phase }, { on := 4, ground := Ground.phase }, { on := 5, ground := Ground.phase }, { on := 6, ground := Ground.phase }, { on := 7, ground := Ground.phase }, { on := 8, ground := Ground.phase }, { on := 9, ground := Ground.textOnly Departure.lateStores }, { on := 10, ground := Ground.phase }], guard := none }) rfl (fun K hK => ?_) AllTill.nil
  · have fr0 := bY.free 0
    have fr1 := bY.free 1
    have fr2 := bY.free 2
    have fc0 := bY.at_ (i := 0) rfl
    have fc1 := bY.at_ (i := 1) rfl
    have fc2 := bY.at_ (i := 2) rfl
    go_simp
    refine at_wd ?_
    intro z hz
    have n_kb : Below w0.heap.size w0 z := by rw [hz]; repeat' (first | assumption | with_reducible exact Below.refl _ _ | with_reducible apply Below.drew | with_reducible apply below_drewN | with_reducible apply below_alloc | with_reducible refine below_set ?_ ?_ _ | (simp only [World.size_alloc, World.heap_drewN]; omega) | (simp; omega))
    have bS : Blk z gy 42 #[.int .i64 K', .int .i64 L', .slice A' n' c'] := by rw [hz]; have t := (((bY).set 0 (.int .i64 K')).set 1 (.int .i64 L')).set 2 (.slice A' n' c'); simp at t; exact t
    have hne : ∀ g', A' = some ⟨g', 0, none⟩ → g' ≠ gy := fun g' e e2 => Own.apart_blk oR bY (by decide) (by rw [e, e2]; rfl)
    have oS := ((((((oR).far (p := ⟨gy, 0, none⟩) hne (.int .i64 K'))).far (p := ⟨gy, 1, none⟩) hne (.int .i64 L'))).far (p := ⟨gy, 2, none⟩) hne (.slice A' n' c'))
    have o2S : Own z w0.heap.size 128 2 A' n' c' (prs zs) := by rw [hz]; exact oS
    refine hK.out _ _ (Till.over (by rfl) (by (refine ⟨kept (B := w0.heap.size) (p := ⟨bd, 0, none⟩) hbd qd ?_, kept (B := w0.heap.size) (p := ⟨bx, 0, none⟩) hbx qbx ?_, kept (B := w0.heap.size) (p := ⟨by_, 0, none⟩) hby_ qby_ ?_, kept (B := w0.heap.size) (p := ⟨g, 0, none⟩) hg c0 ?_, kept (B := w0.heap.size) (p := ⟨g, 1, none⟩) hg c1 ?_, kept (B := w0.heap.size) (p := ⟨g, 2, none⟩) hg c2 ?_⟩ <;> repeat' (first | assumption | with_reducible exact Below.refl _ _ | with_reducible apply Below.drew | with_reducible apply below_drewN | with_reducible apply below_alloc | with_reducible refine below_set ?_ ?_ _ | (simp only [World.size_alloc, World.heap_drewN]; omega) | (simp; omega))))) (fun hS => ?_)
    clear hK K
    try simp only [Act.put, List.setIfInBounds_toArray, List.set_cons_zero, List.set_cons_succ]
    refine anyTill.last (i := 12) (oi := { dst := some 5, op := Op.assign (Operand.tmp 15), type := 64, pos := "desk.go:210", after := #[{ on := 9, ground := Ground.data }, { on := 11, ground := Ground.chain }, { on := 0, ground := Ground.phase }, { on := 1, ground := Ground.phase }, { on := 2, ground := Ground.phase }, { on := 3, ground := Ground.phase }, { on := 4, ground := Ground.phase }, { on := 5, ground := Ground.phase }, { on := 6, ground := Ground.phase }, { on := 7, ground := Ground.phase }, { on := 8, ground := Ground.phase }, { on := 9, ground := Ground.phase }, { on := 10, ground := Ground.phase }, { on := 11, ground := Ground.phase }], guard := none }) (v := ?_) rfl (by kernel_rfl) (by kernel_rfl) (by kernel_rfl) (fun _ _ _ h => hQp _ _ _ _ _ h) (by rfl) (Or.inl ⟨by rfl, ?_⟩) hS (fun hS => ?_)
    rotate_left
    · (intro w hSw; (try dsimp only at hSw); go_split_ands; go_simp; try with_reducible rfl)
    try simp only [Act.put, List.setIfInBounds_toArray, List.set_cons_zero, List.set_cons_succ]
    refine anyTill.fin (by kernel_rfl) ?_ _
    exact hfin _ _ _ _ _ _ _ _ _ bS o2S hF hgy n_kb
set_option maxRecDepth 100000 in
set_option maxHeartbeats 3200000 in
theorem kfew_6 {w0 : World} {g bd bx by_ : Nat} {s : DSt} {Ac : Option Addr} {nc cc : Nat} {key v : Int} (hs : Sl w0 w0.heap.size 2 Ac nc cc (prs s.ctrs)) (hB : DOk s) (hg : g < w0.heap.size) (hbd : bd < w0.heap.size) (hbx : bx < w0.heap.size) (hby_ : by_ < w0.heap.size) (qd : w0.cell? ⟨bd, 0, none⟩ = some (.pointer (some ⟨g, 0, none⟩))) (qbx : w0.cell? ⟨bx, 0, none⟩ = some (.int .i64 key)) (qby_ : w0.cell? ⟨by_, 0, none⟩ = some (.int .i64 v)) (c0 : w0.cell? ⟨g, 0, none⟩ = some (.int .i64 3)) (c1 : w0.cell? ⟨g, 1, none⟩ = some (.int .i64 s.lost)) (c2 : w0.cell? ⟨g, 2, none⟩ = some (.slice Ac nc cc)) {x3 x4 x5 x16 x17 x18 x19 x20 x21 x22 x23 x24 x25 x26 x27 x28 x29 x30 x31 x32 x33 x34 : Value} {df : List Deferred} {Q : Exit → Act → World → Prop} (hQp : ∀ c (a : Act) d v w, Q (.panic c) (a.put d v) w → Q (.panic c) a w)
    (hfin : ∀ (E : Int) (K' : Int) (L' : Int) (zs : List Ct) (A' : Option Addr) (n' : Nat) (c' : Nat) (gy : Nat) (z : World), Blk z gy 42 #[.int .i64 K', .int .i64 L', .slice A' n' c'] → Own z w0.heap.size 128 2 A' n' c' (prs zs) → (E = 0 ∧ 3 = K' ∧ fewS s key v = (0, { s with lost := L', ctrs := zs }, toldOf [(zs.length : Int), L'])) ∨ (E ≠ 0 ∧ fewS s key v = (E, s, [])) → w0.heap.size ≤ gy → Below w0.heap.size w0 z → Q .normal { tmps := #[.pointer (some ⟨bd, 0, none⟩), .pointer (some ⟨bx, 0, none⟩), .pointer (some ⟨by_, 0, none⟩), x3, .pointer (some ⟨gy, 0, none⟩), .int .i64 E, .tuple #[.agg #[.int .i64 K', .int .i64 L', .slice A' n' c'], .int .i64 E], .pointer (some ⟨g, 0, none⟩), .pointer (some ⟨g, 0, none⟩), .pointer (some ⟨g, 0, none⟩), .agg #[.int .i64 3, .int .i64 s.lost, .slice Ac nc cc], .int .i64 key, .int .i64 v, .tuple #[.agg #[.int .i64 K', .int .i64 L', .slice A' n' c'], .int .i64 E], .agg #[.int .i64 K', .int .i64 L', .slice A' n' c'], .int .i64 E, x16, x17, x18, x19, x20, x21, x22, x23, x24, x25, x26, x27, x28, x29, x30, x31, x32, x33, x34], defers := df } z)
    {E : Int} {K' : Int} {L' : Int} {zs : List Ct} {A' : Option Addr} {n' : Nat} {c' : Nat} {kk : Nat} {ll : Array Bool} {aa : Act} {W : World} (hk : kk = 3) (hl : ll = #[true, true, true, true, true, true, true, true, true, true, false, false, false])
    (ha : aa = { tmps := #[.pointer (some ⟨bd, 0, none⟩), .pointer (some ⟨bx, 0, none⟩), .pointer (some ⟨by_, 0, none⟩), x3, x4, x5, .tuple #[.agg #[.int .i64 K', .int .i64 L', .slice A' n' c'], .int .i64 E], .pointer (some ⟨g, 0, none⟩), .pointer (some ⟨g, 0, none⟩), .pointer (some ⟨g, 0, none⟩), .agg #[.int .i64 3, .int .i64 s.lost, .slice Ac nc cc], .int .i64 key, .int .i64 v, .tuple #[.agg #[.int .i64 K', .int .i64 L', .slice A' n' c'], .int .i64 E], .agg #[.int .i64 K', .int .i64 L', .slice A' n' c'], .int .i64 E, x16, x17, x18, x19, x20, x21, x22, x23, x24, x25, x26, x27, x28, x29, x30, x31, x32, x33, x34], defers := df })
    (kb : Below w0.heap.size w0 W) (oR : Own W w0.heap.size 128 2 A' n' c' (prs zs)) (hF : (E = 0 ∧ 3 = K' ∧ fewS s key v = (0, { s with lost := L', ctrs := zs }, toldOf [(zs.length : Int), L'])) ∨ (E ≠ 0 ∧ fewS s key v = (E, s, []))) :
    anyTill Tryz.prog .any kfew_ops Q (Till (fun w' => w'.cell? ⟨bd, 0, none⟩ = some (.pointer (some ⟨g, 0, none⟩)) ∧ w'.cell? ⟨bx, 0, none⟩ = some (.int .i64 key) ∧ w'.cell? ⟨by_, 0, none⟩ = some (.int .i64 v) ∧ w'.cell? ⟨g, 0, none⟩ = some (.int .i64 3) ∧ w'.cell? ⟨g, 1, none⟩ = some (.int .i64 s.lost) ∧ w'.cell? ⟨g, 2, none⟩ = some (.slice Ac nc cc)) (fun _ => True) []) kk ll aa W := by
  subst hk hl ha
  refine anyTill.ready (rs := [10]) (by kernel_rfl) (by simp) ?_
  refine AllTill.cons (o := { dst := some 4, op := Op.alloc 42, type := 0, pos := "desk.go:210", after := #[], guard := none }) rfl (fun K hK => ?_) AllTill.nil
  · go_simp
    refine at_wd ?_
    intro z hz
    have ke : Below W.heap.size W z := by rw [hz]; repeat' (first | assumption | with_reducible exact Below.refl _ _ | with_reducible apply Below.drew | with_reducible apply below_drewN | with_reducible apply below_alloc | with_reducible refine below_set ?_ ?_ _ | (simp only [World.size_alloc, World.heap_drewN]; omega) | (simp; omega))
    have hsz := kb.size
    have n_kb : Below w0.heap.size w0 z := below_on kb ke
    have n_oR : Own z w0.heap.size 128 2 A' n' c' (prs zs) := (oR).below ke (Nat.le_refl _)
    have n_hF : (E = 0 ∧ 3 = K' ∧ fewS s key v = (0, { s with lost := L', ctrs := zs }, toldOf [(zs.length : Int), L'])) ∨ (E ≠ 0 ∧ fewS s key v = (E, s, [])) := hF
    have n_bY : Blk z W.heap.size 42 #[.int .i64 0, .int .i64 0, .slice none 0 0] := by rw [hz]; exact Blk.new _ _ _
    have n_hgy : w0.heap.size ≤ W.heap.size := by first | exact hsz | (simp; omega)
    refine hK.out _ _ (Till.over (by rfl) (by (refine ⟨kept (B := w0.heap.size) (p := ⟨bd, 0, none⟩) hbd qd ?_, kept (B := w0.heap.size) (p := ⟨bx, 0, none⟩) hbx qbx ?_, kept (B := w0.heap.size) (p := ⟨by_, 0, none⟩) hby_ qby_ ?_, kept (B := w0.heap.size) (p := ⟨g, 0, none⟩) hg c0 ?_, kept (B := w0.heap.size) (p := ⟨g, 1, none⟩) hg c1 ?_, kept (B := w0.heap.size) (p := ⟨g, 2, none⟩) hg c2 ?_⟩ <;> repeat' (first | assumption | with_reducible exact Below.refl _ _ | with_reducible apply Below.drew | with_reducible apply below_drewN | with_reducible apply below_alloc | with_reducible refine below_set ?_ ?_ _ | (simp only [World.size_alloc, World.heap_drewN]; omega) | (simp; omega))))) (fun hS => ?_)
    clear hK K
    try simp only [Act.put, List.setIfInBounds_toArray, List.set_cons_zero, List.set_cons_succ]
    exact kfew_6_10 hs hB hg hbd hbx hby_ qd qbx qby_ c0 c1 c2 hQp hfin (by rfl) (by kernel_rfl) (by rfl) n_kb n_oR n_hF n_bY n_hgy
set_option maxRecDepth 100000 in
set_option maxHeartbeats 3200000 in
theorem kfew_10 {w0 : World} {g bd bx by_ : Nat} {s : DSt} {Ac : Option Addr} {nc cc : Nat} {key v : Int} (hs : Sl w0 w0.heap.size 2 Ac nc cc (prs s.ctrs)) (hB : DOk s) (hg : g < w0.heap.size) (hbd : bd < w0.heap.size) (hbx : bx < w0.heap.size) (hby_ : by_ < w0.heap.size) (qd : w0.cell? ⟨bd, 0, none⟩ = some (.pointer (some ⟨g, 0, none⟩))) (qbx : w0.cell? ⟨bx, 0, none⟩ = some (.int .i64 key)) (qby_ : w0.cell? ⟨by_, 0, none⟩ = some (.int .i64 v)) (c0 : w0.cell? ⟨g, 0, none⟩ = some (.int .i64 3)) (c1 : w0.cell? ⟨g, 1, none⟩ = some (.int .i64 s.lost)) (c2 : w0.cell? ⟨g, 2, none⟩ = some (.slice Ac nc cc)) {x3 x5 x6 x13 x14 x15 x16 x17 x18 x19 x20 x21 x22 x23 x24 x25 x26 x27 x28 x29 x30 x31 x32 x33 x34 : Value} {df : List Deferred} {Q : Exit → Act → World → Prop} (hQp : ∀ c (a : Act) d v w, Q (.panic c) (a.put d v) w → Q (.panic c) a w)
    (hfin : ∀ (E : Int) (K' : Int) (L' : Int) (zs : List Ct) (A' : Option Addr) (n' : Nat) (c' : Nat) (gy : Nat) (z : World), Blk z gy 42 #[.int .i64 K', .int .i64 L', .slice A' n' c'] → Own z w0.heap.size 128 2 A' n' c' (prs zs) → (E = 0 ∧ 3 = K' ∧ fewS s key v = (0, { s with lost := L', ctrs := zs }, toldOf [(zs.length : Int), L'])) ∨ (E ≠ 0 ∧ fewS s key v = (E, s, [])) → w0.heap.size ≤ gy → Below w0.heap.size w0 z → Q .normal { tmps := #[.pointer (some ⟨bd, 0, none⟩), .pointer (some ⟨bx, 0, none⟩), .pointer (some ⟨by_, 0, none⟩), x3, .pointer (some ⟨gy, 0, none⟩), .int .i64 E, .tuple #[.agg #[.int .i64 K', .int .i64 L', .slice A' n' c'], .int .i64 E], .pointer (some ⟨g, 0, none⟩), .pointer (some ⟨g, 0, none⟩), .pointer (some ⟨g, 0, none⟩), .agg #[.int .i64 3, .int .i64 s.lost, .slice Ac nc cc], .int .i64 key, .int .i64 v, .tuple #[.agg #[.int .i64 K', .int .i64 L', .slice A' n' c'], .int .i64 E], .agg #[.int .i64 K', .int .i64 L', .slice A' n' c'], .int .i64 E, x16, x17, x18, x19, x20, x21, x22, x23, x24, x25, x26, x27, x28, x29, x30, x31, x32, x33, x34], defers := df } z)
    {gy : Nat} {kk : Nat} {ll : Array Bool} {aa : Act} {W : World} (hk : kk = 6) (hl : ll = #[true, true, true, true, true, true, false, false, false, false, true, false, false])
    (ha : aa = { tmps := #[.pointer (some ⟨bd, 0, none⟩), .pointer (some ⟨bx, 0, none⟩), .pointer (some ⟨by_, 0, none⟩), x3, .pointer (some ⟨gy, 0, none⟩), x5, x6, .pointer (some ⟨g, 0, none⟩), .pointer (some ⟨g, 0, none⟩), .pointer (some ⟨g, 0, none⟩), .agg #[.int .i64 3, .int .i64 s.lost, .slice Ac nc cc], .int .i64 key, .int .i64 v, x13, x14, x15, x16, x17, x18, x19, x20, x21, x22, x23, x24, x25, x26, x27, x28, x29, x30, x31, x32, x33, x34], defers := df })
    (kb : Below w0.heap.size w0 W) (bY : Blk W gy 42 #[.int .i64 0, .int .i64 0, .slice none 0 0]) (hgy : w0.heap.size ≤ gy) :
    anyTill Tryz.prog .any kfew_ops Q (Till (fun w' => w'.cell? ⟨bd, 0, none⟩ = some (.pointer (some ⟨g, 0, none⟩)) ∧ w'.cell? ⟨bx, 0, none⟩ = some (.int .i64 key) ∧ w'.cell? ⟨by_, 0, none⟩ = some (.int .i64 v) ∧ w'.cell? ⟨g, 0, none⟩ = some (.int .i64 3) ∧ w'.cell? ⟨g, 1, none⟩ = some (.int .i64 s.lost) ∧ w'.cell? ⟨g, 2, none⟩ = some (.slice Ac nc cc)) (fun _ => True) []) kk ll aa W := by
  subst hk hl ha
  refine anyTill.ready (rs := [6]) (by kernel_rfl) (by simp) ?_
  refine AllTill.cons (o := { dst := some 13, op := Op.call { callee := Callee.value (Operand.func 193), args := #[Operand.tmp 10, Operand.tmp 11, Operand.tmp 12], argTypes := #[42, 3, 3] }, type := 122, pos := "desk.go:210", after := #[{ on := 3, ground := Ground.data }, { on := 4, ground := Ground.data }, { on := 5, ground := Ground.data }], guard := none }) rfl (fun K hK => ?_) AllTill.nil
  · go_wp2_with fail
    go_at_call 193
    refine (cput_any (key := key) (v := v) (hs.on (below_on kb (by repeat' (first | assumption | with_reducible exact Below.refl _ _ | with_reducible apply Below.drew | with_reducible apply below_drewN | with_reducible apply below_alloc | with_reducible refine below_set ?_ ?_ _ | (simp only [World.size_alloc, World.heap_drewN]; omega) | (simp; omega))))) hB).mono ?_
    rintro e z ⟨E, K', L', zs, A', n', c', rfl, oR, be, hF⟩
    have ke : Below W.heap.size W z := below_on (by repeat' (first | assumption | with_reducible exact Below.refl _ _ | with_reducible apply Below.drew | with_reducible apply below_drewN | with_reducible apply below_alloc | with_reducible refine below_set ?_ ?_ _ | (simp only [World.size_alloc, World.heap_drewN]; omega) | (simp; omega))) be
    have n_kb : Below w0.heap.size w0 z := below_on kb ke
    have hsz := kb.size
    have n_oR : Own z w0.heap.size 128 2 A' n' c' (prs zs) := oR.mono (by first | exact hsz | (simp; omega))
    have n_hF : (E = 0 ∧ 3 = K' ∧ fewS s key v = (0, { s with lost := L', ctrs := zs }, toldOf [(zs.length : Int), L'])) ∨ (E ≠ 0 ∧ fewS s key v = (E, s, [])) := hF
    have n_bY : Blk z gy 42 #[.int .i64 0, .int .i64 0, .slice none 0 0] := (bY).below ke (bY).lt
    have n_hgy : w0.heap.size ≤ gy := hgy
    refine hK.out _ _ (Till.over (by rfl) (by (refine ⟨kept (B := w0.heap.size) (p := ⟨bd, 0, none⟩) hbd qd ?_, kept (B := w0.heap.size) (p := ⟨bx, 0, none⟩) hbx qbx ?_, kept (B := w0.heap.size) (p := ⟨by_, 0, none⟩) hby_ qby_ ?_, kept (B := w0.heap.size) (p := ⟨g, 0, none⟩) hg c0 ?_, kept (B := w0.heap.size) (p := ⟨g, 1, none⟩) hg c1 ?_, kept (B := w0.heap.size) (p := ⟨g, 2, none⟩) hg c2 ?_⟩ <;> repeat' (first | assumption | with_reducible exact Below.refl _ _ | with_reducible apply Below.drew | with_reducible apply below_drewN | with_reducible apply below_alloc | with_reducible refine below_set ?_ ?_ _ | (simp only [World.size_alloc, World.heap_drewN]; omega) | (simp; omega))))) (fun hS => ?_)
    clear hK K
    try simp only [Act.put, List.setIfInBounds_toArray, List.set_cons_zero, List.set_cons_succ]
    refine anyTill.last (i := 7) (oi := { dst := some 6, op := Op.move (Operand.tmp 13), type := 122, pos := "desk.go:210", after := #[{ on := 6, ground := Ground.data }], guard := none }) (v := ?_) rfl (by kernel_rfl) (by kernel_rfl) (by kernel_rfl) (fun _ _ _ h => hQp _ _ _ _ _ h) (by rfl) (Or.inl ⟨by rfl, ?_⟩) hS (fun hS => ?_)
    rotate_left
    · (intro w hSw; (try dsimp only at hSw); go_split_ands; go_simp; try with_reducible rfl)
    try simp only [Act.put, List.setIfInBounds_toArray, List.set_cons_zero, List.set_cons_succ]
    refine anyTill.last (i := 8) (oi := { dst := some 14, op := Op.extract (Operand.tmp 6) 0, type := 42, pos := "desk.go:210", after := #[{ on := 7, ground := Ground.data }], guard := none }) (v := ?_) rfl (by kernel_rfl) (by kernel_rfl) (by kernel_rfl) (fun _ _ _ h => hQp _ _ _ _ _ h) (by rfl) (Or.inl ⟨by rfl, ?_⟩) hS (fun hS => ?_)
    rotate_left
    · (intro w hSw; (try dsimp only at hSw); go_split_ands; go_simp; try with_reducible rfl)
    try simp only [Act.put, List.setIfInBounds_toArray, List.set_cons_zero, List.set_cons_succ]
    refine anyTill.last (i := 9) (oi := { dst := some 15, op := Op.extract (Operand.tmp 6) 1, type := 64, pos := "desk.go:210", after := #[{ on := 7, ground := Ground.data }, { on := 11, ground := Ground.gcOnly Departure.lateStores }], guard := none }) (v := ?_) rfl (by kernel_rfl) (by kernel_rfl) (by kernel_rfl) (fun _ _ _ h => hQp _ _ _ _ _ h) (by rfl) (Or.inl ⟨by rfl, ?_⟩) hS (fun hS => ?_)
    rotate_left
    · (intro w hSw; (try dsimp only at hSw); go_split_ands; go_simp; try with_reducible rfl)
    try simp only [Act.put, List.setIfInBounds_toArray, List.set_cons_zero, List.set_cons_succ]
    exact kfew_6_10 hs hB hg hbd hbx hby_ qd qbx qby_ c0 c1 c2 hQp hfin (by rfl) (by kernel_rfl) (by rfl) n_kb n_oR n_hF n_bY n_hgy
set_option maxRecDepth 100000 in
set_option maxHeartbeats 3200000 in
theorem kfew_o {w0 : World} {g bd bx by_ : Nat} {s : DSt} {Ac : Option Addr} {nc cc : Nat} {key v : Int} (hs : Sl w0 w0.heap.size 2 Ac nc cc (prs s.ctrs)) (hB : DOk s) (hg : g < w0.heap.size) (hbd : bd < w0.heap.size) (hbx : bx < w0.heap.size) (hby_ : by_ < w0.heap.size) (qd : w0.cell? ⟨bd, 0, none⟩ = some (.pointer (some ⟨g, 0, none⟩))) (qbx : w0.cell? ⟨bx, 0, none⟩ = some (.int .i64 key)) (qby_ : w0.cell? ⟨by_, 0, none⟩ = some (.int .i64 v)) (c0 : w0.cell? ⟨g, 0, none⟩ = some (.int .i64 3)) (c1 : w0.cell? ⟨g, 1, none⟩ = some (.int .i64 s.lost)) (c2 : w0.cell? ⟨g, 2, none⟩ = some (.slice Ac nc cc)) {x3 x4 x5 x6 x13 x14 x15 x16 x17 x18 x19 x20 x21 x22 x23 x24 x25 x26 x27 x28 x29 x30 x31 x32 x33 x34 : Value} {df : List Deferred} {Q : Exit → Act → World → Prop} (hQp : ∀ c (a : Act) d v w, Q (.panic c) (a.put d v) w → Q (.panic c) a w)
    (hfin : ∀ (E : Int) (K' : Int) (L' : Int) (zs : List Ct) (A' : Option Addr) (n' : Nat) (c' : Nat) (gy : Nat) (z : World), Blk z gy 42 #[.int .i64 K', .int .i64 L', .slice A' n' c'] → Own z w0.heap.size 128 2 A' n' c' (prs zs) → (E = 0 ∧ 3 = K' ∧ fewS s key v = (0, { s with lost := L', ctrs := zs }, toldOf [(zs.length : Int), L'])) ∨ (E ≠ 0 ∧ fewS s key v = (E, s, [])) → w0.heap.size ≤ gy → Below w0.heap.size w0 z → Q .normal { tmps := #[.pointer (some ⟨bd, 0, none⟩), .pointer (some ⟨bx, 0, none⟩), .pointer (some ⟨by_, 0, none⟩), x3, .pointer (some ⟨gy, 0, none⟩), .int .i64 E, .tuple #[.agg #[.int .i64 K', .int .i64 L', .slice A' n' c'], .int .i64 E], .pointer (some ⟨g, 0, none⟩), .pointer (some ⟨g, 0, none⟩), .pointer (some ⟨g, 0, none⟩), .agg #[.int .i64 3, .int .i64 s.lost, .slice Ac nc cc], .int .i64 key, .int .i64 v, .tuple #[.agg #[.int .i64 K', .int .i64 L', .slice A' n' c'], .int .i64 E], .agg #[.int .i64 K', .int .i64 L', .slice A' n' c'], .int .i64 E, x16, x17, x18, x19, x20, x21, x22, x23, x24, x25, x26, x27, x28, x29, x30, x31, x32, x33, x34], defers := df } z)
     {kk : Nat} {ll : Array Bool} {aa : Act} {W : World} (hk : kk = 7) (hl : ll = #[true, true, true, true, true, true, false, false, false, false, false, false, false])
    (ha : aa = { tmps := #[.pointer (some ⟨bd, 0, none⟩), .pointer (some ⟨bx, 0, none⟩), .pointer (some ⟨by_, 0, none⟩), x3, x4, x5, x6, .pointer (some ⟨g, 0, none⟩), .pointer (some ⟨g, 0, none⟩), .pointer (some ⟨g, 0, none⟩), .agg #[.int .i64 3, .int .i64 s.lost, .slice Ac nc cc], .int .i64 key, .int .i64 v, x13, x14, x15, x16, x17, x18, x19, x20, x21, x22, x23, x24, x25, x26, x27, x28, x29, x30, x31, x32, x33, x34], defers := df })
    (kb : Below w0.heap.size w0 W) :
    anyTill Tryz.prog .any kfew_ops Q (Till (fun w' => w'.cell? ⟨bd, 0, none⟩ = some (.pointer (some ⟨g, 0, none⟩)) ∧ w'.cell? ⟨bx, 0, none⟩ = some (.int .i64 key) ∧ w'.cell? ⟨by_, 0, none⟩ = some (.int .i64 v) ∧ w'.cell? ⟨g, 0, none⟩ = some (.int .i64 3) ∧ w'.cell? ⟨g, 1, none⟩ = some (.int .i64 s.lost) ∧ w'.cell? ⟨g, 2, none⟩ = some (.slice Ac nc cc)) (fun _ => True) []) kk ll aa W := by
  subst hk hl ha
  refine anyTill.ready (rs := [6, 10]) (by kernel_rfl) (by simp) ?_
  refine AllTill.cons (o := { dst := some 13, op := Op.call { callee := Callee.value (Operand.func 193), args := #[Operand.tmp 10, Operand.tmp 11, Operand.tmp 12], argTypes := #[42, 3, 3] }, type := 122, pos := "desk.go:210", after := #[{ on := 3, ground := Ground.data }, { on := 4, ground := Ground.data }, { on := 5, ground := Ground.data }], guard := none }) rfl (fun K hK => ?_) (AllTill.cons (o := { dst := some 4, op := Op.alloc 42, type := 0, pos := "desk.go:210", after := #[], guard := none }) rfl (fun K hK => ?_) AllTill.nil)
  · go_wp2_with fail
    go_at_call 193
    refine (cput_any (key := key) (v := v) (hs.on (below_on kb (by repeat' (first | assumption | with_reducible exact Below.refl _ _ | with_reducible apply Below.drew | with_reducible apply below_drewN | with_reducible apply below_alloc | with_reducible refine below_set ?_ ?_ _ | (simp only [World.size_alloc, World.heap_drewN]; omega) | (simp; omega))))) hB).mono ?_
    rintro e z ⟨E, K', L', zs, A', n', c', rfl, oR, be, hF⟩
    have ke : Below W.heap.size W z := below_on (by repeat' (first | assumption | with_reducible exact Below.refl _ _ | with_reducible apply Below.drew | with_reducible apply below_drewN | with_reducible apply below_alloc | with_reducible refine below_set ?_ ?_ _ | (simp only [World.size_alloc, World.heap_drewN]; omega) | (simp; omega))) be
    have n_kb : Below w0.heap.size w0 z := below_on kb ke
    have hsz := kb.size
    have n_oR : Own z w0.heap.size 128 2 A' n' c' (prs zs) := oR.mono (by first | exact hsz | (simp; omega))
    have n_hF : (E = 0 ∧ 3 = K' ∧ fewS s key v = (0, { s with lost := L', ctrs := zs }, toldOf [(zs.length : Int), L'])) ∨ (E ≠ 0 ∧ fewS s key v = (E, s, [])) := hF
    refine hK.out _ _ (Till.over (by rfl) (by (refine ⟨kept (B := w0.heap.size) (p := ⟨bd, 0, none⟩) hbd qd ?_, kept (B := w0.heap.size) (p := ⟨bx, 0, none⟩) hbx qbx ?_, kept (B := w0.heap.size) (p := ⟨by_, 0, none⟩) hby_ qby_ ?_, kept (B := w0.heap.size) (p := ⟨g, 0, none⟩) hg c0 ?_, kept (B := w0.heap.size) (p := ⟨g, 1, none⟩) hg c1 ?_, kept (B := w0.heap.size) (p := ⟨g, 2, none⟩) hg c2 ?_⟩ <;> repeat' (first | assumption | with_reducible exact Below.refl _ _ | with_reducible apply Below.drew | with_reducible apply below_drewN | with_reducible apply below_alloc | with_reducible refine below_set ?_ ?_ _ | (simp only [World.size_alloc, World.heap_drewN]; omega) | (simp; omega))))) (fun hS => ?_)
    clear hK K
    try simp only [Act.put, List.setIfInBounds_toArray, List.set_cons_zero, List.set_cons_succ]
    refine anyTill.last (i := 7) (oi := { dst := some 6, op := Op.move (Operand.tmp 13), type := 122, pos := "desk.go:210", after := #[{ on := 6, ground := Ground.data }], guard := none }) (v := ?_) rfl (by kernel_rfl) (by kernel_rfl) (by kernel_rfl) (fun _ _ _ h => hQp _ _ _ _ _ h) (by rfl) (Or.inl ⟨by rfl, ?_⟩) hS (fun hS => ?_)
    rotate_left
    · (intro w hSw; (try dsimp only at hSw); go_split_ands; go_simp; try with_reducible rfl)
    try simp only [Act.put, List.setIfInBounds_toArray, List.set_cons_zero, List.set_cons_succ]
    refine anyTill.last (i := 8) (oi := { dst := some 14, op := Op.extract (Operand.tmp 6) 0, type := 42, pos := "desk.go:210", after := #[{ on := 7, ground := Ground.data }], guard := none }) (v := ?_) rfl (by kernel_rfl) (by kernel_rfl) (by kernel_rfl) (fun _ _ _ h => hQp _ _ _ _ _ h) (by rfl) (Or.inl ⟨by rfl, ?_⟩) hS (fun hS => ?_)
    rotate_left
    · (intro w hSw; (try dsimp only at hSw); go_split_ands; go_simp; try with_reducible rfl)
    try simp only [Act.put, List.setIfInBounds_toArray, List.set_cons_zero, List.set_cons_succ]
    refine anyTill.last (i := 9) (oi := { dst := some 15, op := Op.extract (Operand.tmp 6) 1, type := 64, pos := "desk.go:210", after := #[{ on := 7, ground := Ground.data }, { on := 11, ground := Ground.gcOnly Departure.lateStores }], guard := none }) (v := ?_) rfl (by kernel_rfl) (by kernel_rfl) (by kernel_rfl) (fun _ _ _ h => hQp _ _ _ _ _ h) (by rfl) (Or.inl ⟨by rfl, ?_⟩) hS (fun hS => ?_)
    rotate_left
    · (intro w hSw; (try dsimp only at hSw); go_split_ands; go_simp; try with_reducible rfl)
    try simp only [Act.put, List.setIfInBounds_toArray, List.set_cons_zero, List.set_cons_succ]
    exact kfew_6 hs hB hg hbd hbx hby_ qd qbx qby_ c0 c1 c2 hQp hfin (by rfl) (by kernel_rfl) (by rfl) n_kb n_oR n_hF
  · go_simp
    refine at_wd ?_
    intro z hz
    have ke : Below W.heap.size W z := by rw [hz]; repeat' (first | assumption | with_reducible exact Below.refl _ _ | with_reducible apply Below.drew | with_reducible apply below_drewN | with_reducible apply below_alloc | with_reducible refine below_set ?_ ?_ _ | (simp only [World.size_alloc, World.heap_drewN]; omega) | (simp; omega))
    have hsz := kb.size
    have n_kb : Below w0.heap.size w0 z := below_on kb ke
    have n_bY : Blk z W.heap.size 42 #[.int .i64 0, .int .i64 0, .slice none 0 0] := by rw [hz]; exact Blk.new _ _ _
    have n_hgy : w0.heap.size ≤ W.heap.size := by first | exact hsz | (simp; omega)
    refine hK.out _ _ (Till.over (by rfl) (by (refine ⟨kept (B := w0.heap.size) (p := ⟨bd, 0, none⟩) hbd qd ?_, kept (B := w0.heap.size) (p := ⟨bx, 0, none⟩) hbx qbx ?_, kept (B := w0.heap.size) (p := ⟨by_, 0, none⟩) hby_ qby_ ?_, kept (B := w0.heap.size) (p := ⟨g, 0, none⟩) hg c0 ?_, kept (B := w0.heap.size) (p := ⟨g, 1, none⟩) hg c1 ?_, kept (B := w0.heap.size) (p := ⟨g, 2, none⟩) hg c2 ?_⟩ <;> repeat' (first | assumption | with_reducible exact Below.refl _ _ | with_reducible apply Below.drew | with_reducible apply below_drewN | with_reducible apply below_alloc | with_reducible refine below_set ?_ ?_ _ | (simp only [World.size_alloc, World.heap_drewN]; omega) | (simp; omega))))) (fun hS => ?_)
    clear hK K
    try simp only [Act.put, List.setIfInBounds_toArray, List.set_cons_zero, List.set_cons_succ]
    exact kfew_10 hs hB hg hbd hbx hby_ qd qbx qby_ c0 c1 c2 hQp hfin (by rfl) (by kernel_rfl) (by rfl) n_kb n_bY n_hgy
set_option maxRecDepth 100000 in
set_option maxHeartbeats 3200000 in
theorem kfew_start {w0 : World} {g bd bx by_ : Nat} {s : DSt} {Ac : Option Addr} {nc cc : Nat} {key v : Int} (hs : Sl w0 w0.heap.size 2 Ac nc cc (prs s.ctrs)) (hB : DOk s) (hg : g < w0.heap.size) (hbd : bd < w0.heap.size) (hbx : bx < w0.heap.size) (hby_ : by_ < w0.heap.size) (qd : w0.cell? ⟨bd, 0, none⟩ = some (.pointer (some ⟨g, 0, none⟩))) (qbx : w0.cell? ⟨bx, 0, none⟩ = some (.int .i64 key)) (qby_ : w0.cell? ⟨by_, 0, none⟩ = some (.int .i64 v)) (c0 : w0.cell? ⟨g, 0, none⟩ = some (.int .i64 3)) (c1 : w0.cell? ⟨g, 1, none⟩ = some (.int .i64 s.lost)) (c2 : w0.cell? ⟨g, 2, none⟩ = some (.slice Ac nc cc)) {x3 x4 x5 x6 x7 x8 x9 x10 x11 x12 x13 x14 x15 x16 x17 x18 x19 x20 x21 x22 x23 x24 x25 x26 x27 x28 x29 x30 x31 x32 x33 x34 : Value} {df : List Deferred} {Q : Exit → Act → World → Prop} (hQp : ∀ c (a : Act) d v w, Q (.panic c) (a.put d v) w → Q (.panic c) a w)
    (hfin : ∀ (E : Int) (K' : Int) (L' : Int) (zs : List Ct) (A' : Option Addr) (n' : Nat) (c' : Nat) (gy : Nat) (z : World), Blk z gy 42 #[.int .i64 K', .int .i64 L', .slice A' n' c'] → Own z w0.heap.size 128 2 A' n' c' (prs zs) → (E = 0 ∧ 3 = K' ∧ fewS s key v = (0, { s with lost := L', ctrs := zs }, toldOf [(zs.length : Int), L'])) ∨ (E ≠ 0 ∧ fewS s key v = (E, s, [])) → w0.heap.size ≤ gy → Below w0.heap.size w0 z → Q .normal { tmps := #[.pointer (some ⟨bd, 0, none⟩), .pointer (some ⟨bx, 0, none⟩), .pointer (some ⟨by_, 0, none⟩), x3, .pointer (some ⟨gy, 0, none⟩), .int .i64 E, .tuple #[.agg #[.int .i64 K', .int .i64 L', .slice A' n' c'], .int .i64 E], .pointer (some ⟨g, 0, none⟩), .pointer (some ⟨g, 0, none⟩), .pointer (some ⟨g, 0, none⟩), .agg #[.int .i64 3, .int .i64 s.lost, .slice Ac nc cc], .int .i64 key, .int .i64 v, .tuple #[.agg #[.int .i64 K', .int .i64 L', .slice A' n' c'], .int .i64 E], .agg #[.int .i64 K', .int .i64 L', .slice A' n' c'], .int .i64 E, x16, x17, x18, x19, x20, x21, x22, x23, x24, x25, x26, x27, x28, x29, x30, x31, x32, x33, x34], defers := df } z)
     {kk : Nat} {ll : Array Bool} {aa : Act} {W : World} (hk : kk = 13) (hl : ll = #[false, false, false, false, false, false, false, false, false, false, false, false, false])
    (ha : aa = { tmps := #[.pointer (some ⟨bd, 0, none⟩), .pointer (some ⟨bx, 0, none⟩), .pointer (some ⟨by_, 0, none⟩), x3, x4, x5, x6, x7, x8, x9, x10, x11, x12, x13, x14, x15, x16, x17, x18, x19, x20, x21, x22, x23, x24, x25, x26, x27, x28, x29, x30, x31, x32, x33, x34], defers := df })
    (kb : Below w0.heap.size w0 W) :
    anyTill Tryz.prog .any kfew_ops Q (Till (fun w' => w'.cell? ⟨bd, 0, none⟩ = some (.pointer (some ⟨g, 0, none⟩)) ∧ w'.cell? ⟨bx, 0, none⟩ = some (.int .i64 key) ∧ w'.cell? ⟨by_, 0, none⟩ = some (.int .i64 v) ∧ w'.cell? ⟨g, 0, none⟩ = some (.int .i64 3) ∧ w'.cell? ⟨g, 1, none⟩ = some (.int .i64 s.lost) ∧ w'.cell? ⟨g, 2, none⟩ = some (.slice Ac nc cc)) (fun _ => True) []) kk ll aa W := by
  subst hk hl ha
  refine anyTill.last (i := 0) (oi := { dst := some 7, op := Op.load 39 (Operand.tmp 0), type := 39, pos := "desk.go:210", after := #[], guard := none }) (v := ?_) rfl (by kernel_rfl) (by kernel_rfl) (by kernel_rfl) (fun _ _ _ h => hQp _ _ _ _ _ h) (by rfl) (Or.inl ⟨by rfl, ?_⟩) ⟨by (refine ⟨kept (B := w0.heap.size) (p := ⟨bd, 0, none⟩) hbd qd ?_, kept (B := w0.heap.size) (p := ⟨bx, 0, none⟩) hbx qbx ?_, kept (B := w0.heap.size) (p := ⟨by_, 0, none⟩) hby_ qby_ ?_, kept (B := w0.heap.size) (p := ⟨g, 0, none⟩) hg c0 ?_, kept (B := w0.heap.size) (p := ⟨g, 1, none⟩) hg c1 ?_, kept (B := w0.heap.size) (p := ⟨g, 2, none⟩) hg c2 ?_⟩ <;> repeat' (first | assumption | with_reducible exact Below.refl _ _ | with_reducible apply Below.drew | with_reducible apply below_drewN | with_reducible apply below_alloc | with_reducible refine below_set ?_ ?_ _ | (simp only [World.size_alloc, World.heap_drewN]; omega) | (simp; omega))), fun _ => by trivial⟩ (fun hS => ?_)
  rotate_left
  · (intro w hSw; (try dsimp only at hSw); go_split_ands; go_simp; try with_reducible rfl)
  try simp only [Act.put, List.setIfInBounds_toArray, List.set_cons_zero, List.set_cons_succ]
  refine anyTill.last (i := 1) (oi := { dst := some 8, op := Op.nilCheck (Operand.tmp 7), type := 0, pos := "desk.go:210", after := #[{ on := 0, ground := Ground.data }], guard := none }) (v := ?_) rfl (by kernel_rfl) (by kernel_rfl) (by kernel_rfl) (fun _ _ _ h => hQp _ _ _ _ _ h) (by rfl) (Or.inl ⟨by rfl, ?_⟩) hS (fun hS => ?_)
  rotate_left
  · (intro w hSw; (try dsimp only at hSw); go_split_ands; go_simp; try with_reducible rfl)
  try simp only [Act.put, List.setIfInBounds_toArray, List.set_cons_zero, List.set_cons_succ]
  refine anyTill.last (i := 2) (oi := { dst := some 9, op := Op.fieldAddr 50 (Operand.tmp 8) 0, type := 0, pos := "desk.go:210", after := #[{ on := 1, ground := Ground.data }], guard := none }) (v := ?_) rfl (by kernel_rfl) (by kernel_rfl) (by kernel_rfl) (fun _ _ _ h => hQp _ _ _ _ _ h) (by rfl) (Or.inl ⟨by rfl, ?_⟩) hS (fun hS => ?_)
  rotate_left
  · (intro w hSw; (try dsimp only at hSw); go_split_ands; go_simp; try with_reducible rfl)
  try simp only [Act.put, List.setIfInBounds_toArray, List.set_cons_zero, List.set_cons_succ]
  refine anyTill.last (i := 3) (oi := { dst := some 10, op := Op.load 42 (Operand.tmp 9), type := 42, pos := "desk.go:210", after := #[{ on := 2, ground := Ground.data }], guard := none }) (v := ?_) rfl (by kernel_rfl) (by kernel_rfl) (by kernel_rfl) (fun _ _ _ h => hQp _ _ _ _ _ h) (by rfl) (Or.inl ⟨by rfl, ?_⟩) hS (fun hS => ?_)
  rotate_left
  · (intro w hSw; (try dsimp only at hSw); go_split_ands; go_simp; try with_reducible rfl)
  try simp only [Act.put, List.setIfInBounds_toArray, List.set_cons_zero, List.set_cons_succ]
  refine anyTill.last (i := 4) (oi := { dst := some 11, op := Op.load 3 (Operand.tmp 1), type := 3, pos := "desk.go:210", after := #[], guard := none }) (v := ?_) rfl (by kernel_rfl) (by kernel_rfl) (by kernel_rfl) (fun _ _ _ h => hQp _ _ _ _ _ h) (by rfl) (Or.inl ⟨by rfl, ?_⟩) hS (fun hS => ?_)
  rotate_left
  · (intro w hSw; (try dsimp only at hSw); go_split_ands; go_simp; try with_reducible rfl)
  try simp only [Act.put, List.setIfInBounds_toArray, List.set_cons_zero, List.set_cons_succ]
  refine anyTill.last (i := 5) (oi := { dst := some 12, op := Op.load 3 (Operand.tmp 2), type := 3, pos := "desk.go:210", after := #[], guard := none }) (v := ?_) rfl (by kernel_rfl) (by kernel_rfl) (by kernel_rfl) (fun _ _ _ h => hQp _ _ _ _ _ h) (by rfl) (Or.inl ⟨by rfl, ?_⟩) hS (fun hS => ?_)
  rotate_left
  · (intro w hSw; (try dsimp only at hSw); go_split_ands; go_simp; try with_reducible rfl)
  try simp only [Act.put, List.setIfInBounds_toArray, List.set_cons_zero, List.set_cons_succ]
  exact kfew_o hs hB hg hbd hbx hby_ qd qbx qby_ c0 c1 c2 hQp hfin (by rfl) (by kernel_rfl) (by rfl) kb
section
variable {w : World} {g bd bx by_ b : Nat} {s : DSt} {key v : Int}
set_option maxRecDepth 100000 in
set_option maxHeartbeats 6400000 in
theorem keep4_any (hL : LibW b w) (hb : b ≤ g) (hD : DeskAt w g s) (hO : DOk s) (hx : I64 key)
    (bD : Blk w bd 39 #[.pointer (some ⟨g, 0, none⟩)]) (bbx : Blk w bx 3 #[.int .i64 key]) (bby_ : Blk w by_ 3 #[.int .i64 v]) :
    Calls Tryz.prog 192 #[.pointer (some ⟨bd, 0, none⟩), .pointer (some ⟨bx, 0, none⟩), .pointer (some ⟨by_, 0, none⟩)] w fun e w' => Did w g (fewS s key v) e w' := by
  have HL := hide hL
  have HO := hide hO
  have HN := hide (fewS_ok hO hx v)
  obtain ⟨R, hR⟩ : ∃ R, fewS s key v = R := ⟨_, rfl⟩
  rw [hR] at HN ⊢
  have HR := hide hR
  clear hR
  obtain ⟨Ac, nc, cc, Ar, nr, cr, Ai, ni, ci, An, nn, cn, hg, ⟨h1, o1⟩, ⟨h2, o2⟩, ⟨h3, o3⟩, ⟨h4, o4⟩⟩ := hD
  have hgl := hg.lt
  have a0 := hg.at_ (i := 0) (u := .int .i64 3) rfl
  have a1 := hg.at_ (i := 1) (u := .int .i64 s.lost) rfl
  have a2 := hg.at_ (i := 2) (u := .slice Ac nc cc) rfl
  have ad := bD.at_ (i := 0) (u := .pointer (some ⟨g, 0, none⟩)) rfl
  have abx := bbx.at_ (i := 0) (u := .int .i64 key) rfl
  have aby_ := bby_.at_ (i := 0) (u := .int .i64 v) rfl
  clear hL hO
  go_enter Tryz.func192, Tryz.ntmps192
  go_wp2_with fail
  refine anyTill.begin (S := Till (fun w' => w'.cell? ⟨bd, 0, none⟩ = some (.pointer (some ⟨g, 0, none⟩)) ∧ w'.cell? ⟨bx, 0, none⟩ = some (.int .i64 key) ∧ w'.cell? ⟨by_, 0, none⟩ = some (.int .i64 v) ∧ w'.cell? ⟨g, 0, none⟩ = some (.int .i64 3) ∧ w'.cell? ⟨g, 1, none⟩ = some (.int .i64 s.lost) ∧ w'.cell? ⟨g, 2, none⟩ = some (.slice Ac nc cc)) (fun _ => True) []) (by kernel_rfl) ?_
  refine kfew_start h1 HO.out hgl bD.lt bbx.lt bby_.lt ad abx aby_ a0 a1 a2 (fun _ _ d _ _ h => by cases d <;> exact h) ?_ (by rfl) (by kernel_rfl) (by rfl) (by repeat' (first | assumption | with_reducible exact Below.refl _ _ | with_reducible apply Below.drew | with_reducible apply below_drewN | with_reducible apply below_alloc | with_reducible refine below_set ?_ ?_ _ | (simp only [World.size_alloc, World.heap_drewN]; omega) | (simp; omega)))
  intro E K' L' zs A' n' c' gy z hY oR hF hgy kz
  have bDz := bD.below kz bD.lt
  have hgz := hg.below kz hgl
  have hyg : ¬ gy = g := by omega
  have hgy2 : ¬ g = gy := by omega
  clear a0 a1 a2 ad abx bbx aby_ bby_
  rcases hF with ⟨rfl, rfl, hF⟩ | ⟨hE, hF⟩
  · have hR2 := HR.out
    rw [hF] at hR2
    subst hR2
    clear hF HR
    go_wp2_with fail
    refine (must_ok _).mono ?_
    rintro e w1 ⟨rfl, rfl⟩
    have ad := bDz.at_ (i := 0) (u := .pointer (some ⟨g, 0, none⟩)) rfl
    have y0 := hY.at_ (i := 0) (u := .int .i64 3) rfl
    have y1 := hY.at_ (i := 1) (u := .int .i64 L') rfl
    have y2 := hY.at_ (i := 2) (u := .slice A' n' c') rfl
    have a0 := hgz.at_ (i := 0) (u := .int .i64 3) rfl
    have f0 := hgz.free 0
    have a1 := hgz.at_ (i := 1) (u := .int .i64 s.lost) rfl
    have f1 := hgz.free 1
    have a2 := hgz.at_ (i := 2) (u := .slice Ac nc cc) rfl
    have f2 := hgz.free 2
    go_wp2_with fail
    have bS : Blk (((w1.setCell ⟨g, 0, none⟩ (.int .i64 3)).setCell ⟨g, 1, none⟩ (.int .i64 L')).setCell ⟨g, 2, none⟩ (.slice A' n' c')) g DT #[.int .i64 3, .int .i64 L', .slice A' n' c', .slice Ar nr cr, .int .i64 3, .int .i64 s.seen, .slice Ai ni ci, .int .i64 3, .slice An nn cn] := by
      have t := (((hgz).set 0 (.int .i64 3)).set 1 (.int .i64 L')).set 2 (.slice A' n' c')
      simpa using t
    have gS : w1.grownBy (((w1.setCell ⟨g, 0, none⟩ (.int .i64 3)).setCell ⟨g, 1, none⟩ (.int .i64 L')).setCell ⟨g, 2, none⟩ (.slice A' n' c')) (some g) := gtrans (gtrans (gset _ _ _ _) (gset _ _ _ _)) (gset _ _ _ _)
    clear a0 f0 a1 f1 a2 f2 y0 y1 y2 ad
    have kb : Below b w (((w1.setCell ⟨g, 0, none⟩ (.int .i64 3)).setCell ⟨g, 1, none⟩ (.int .i64 L')).setCell ⟨g, 2, none⟩ (.slice A' n' c')) := (kz.mono (by omega)).grown gS (by have := kz.size; omega) (fun j hj => by injection hj with hj; omega)
    generalize (((w1.setCell ⟨g, 0, none⟩ (.int .i64 3)).setCell ⟨g, 1, none⟩ (.int .i64 L')).setCell ⟨g, 2, none⟩ (.slice A' n' c')) = wS at bS gS kb ⊢
    have oI := Off.of oR hgl
    have hbS : b ≤ wS.heap.size := by have := kb.size; omega
    have hok := fwErr_ok rfl HN.out.few
    dsimp only at hok
    have hzl : zs.length = n' := oR.sl.plen
    have hl1 := hok.l1
    have hl2 := hok.l2
    have hnk := hok.nk
    have hn3 : n' ≤ 1000 := by omega
    clear hok
    have bDS : Blk wS bd 39 #[.pointer (some ⟨g, 0, none⟩)] := (gS.block bd bDz.lt (fun e => by injection e with e; exact (bd_ne bDz hgz) e)).trans bDz
    have q0 := bDS.at_ (i := 0) (u := .pointer (some ⟨g, 0, none⟩)) rfl
    have q1 := bS.at_ (i := 1) (u := .int .i64 L') rfl
    have q2 := bS.at_ (i := 2) (u := .slice A' n' c') rfl
    refine anyTill.begin (S := Till (fun w' => w'.cell? ⟨bd, 0, none⟩ = some (.pointer (some ⟨g, 0, none⟩)) ∧ w'.cell? ⟨g, 1, none⟩ = some (.int .i64 L') ∧ w'.cell? ⟨g, 2, none⟩ = some (.slice A' n' c')) (fun _ => True) []) (by kernel_rfl) ?_
    refine ktold_start (HL.out.below kb) hbS hn3 (by unfold I64; omega) bS.lt bDS.lt q0 q1 q2 (fun _ _ d _ _ h => by cases d <;> exact h) ?_ (by rfl) (by kernel_rfl) (by rfl) (by repeat' (first | assumption | with_reducible exact Below.refl _ _ | with_reducible apply Below.drew | with_reducible apply below_drewN | with_reducible apply below_alloc | with_reducible refine below_set ?_ ?_ _ | (simp only [World.size_alloc, World.heap_drewN]; omega) | (simp; omega)))
    intro gb w2 b2
    clear q0 q1 q2
    go_wp2_with fail
    go_ret
    exact ⟨gtrans (gtrans (gbelow kz _) gS) (gbelow b2 _), (DeskAt.mk' gS bS oR.sl oI (h2.on kz) (o2.on kz) (h3.on kz) (o3.on kz) (h4.on kz) (o4.on kz)).on b2, .inl ⟨rfl, by dsimp only; rw [hzl]; rfl⟩⟩
  · have hR2 := HR.out
    rw [hF] at hR2
    subst hR2
    clear hF HR
    go_wp2_with fail
    refine (must_bad hE _).mono ?_
    rintro e w1 ⟨rfl, rfl⟩
    exact ⟨rfl, gbelow kz _, (show DeskAt w g s from ⟨Ac, nc, cc, Ar, nr, cr, Ai, ni, ci, An, nn, cn, hg, ⟨h1, o1⟩, ⟨h2, o2⟩, ⟨h3, o3⟩, ⟨h4, o4⟩⟩).on kz, .inr ⟨hE, rfl⟩⟩
end
end Go.Proofs.YtjpbjghdplbdcaaGreatDoor
end
