/- Proves the parts of the claim that its last text joins: Keep2. Conditions: those that each theorem names. -/
import Derived.Test.YtjpbjghdplbdcaaGreatDoorM13
import Derived.Test.YtjpbjghdplbdcaaGreatDoorM22
import Derived.Test.YtjpbjghdplbdcaaGreatDoorM25
section
namespace Go.Proofs.YtjpbjghdplbdcaaGreatDoor
open Go.RowKit Go.Shelf
set_option linter.unusedVariables false
theorem lput_any {w : World} {A : Option Addr} {n c : Nat} {s : DSt} {x : Int} (h : Si w A n c s.nums) (hB : botErr 3 s.nums.length s.nums = 0) :
    Calls Tryz.prog 189 #[.agg #[.int .i64 3, .slice A n c], .int .i64 x] w fun e w' => ∃ E K' zs A' n' c', e = .returned (.tuple #[.agg #[.int .i64 K', .slice A' n' c'], .int .i64 E]) ∧ Own w' w.heap.size 3 1 A' n' c' (ints zs) ∧ Below w.heap.size w w' ∧
      ((E = 0 ∧ 3 = K' ∧ leastS s x = (0, { s with nums := zs }, toldOf zs)) ∨ (E ≠ 0 ∧ leastS s x = (E, s, []))) := by
  rw [h.ilen] at hB
  cases hd : isDraw x with
  | true =>
    refine (botput_ok (k := 3) h hB hd).mono ?_
    rintro e w' ⟨A', n', c', rfl, ho, hb⟩
    exact ⟨_, _, _, A', n', c', rfl, ho, hb, .inl ⟨rfl, rfl, by unfold leastS; rw [if_pos hd]⟩⟩
  | false =>
    refine (botput_arg h hB hd).mono ?_
    rintro e w' ⟨rfl, hb⟩
    exact ⟨_, _, [], none, 0, 0, rfl, Own.nil _ _ _ _, hb, .inr ⟨by decide, by unfold leastS; rw [hd]; rfl⟩⟩
def kleast_ops : Array Oper := #[{ dst := some 6, op := Op.load 39 (Operand.tmp 0), type := 39, pos := "desk.go:200", after := #[], guard := none },
  { dst := some 7, op := Op.nilCheck (Operand.tmp 6), type := 0, pos := "desk.go:200", after := #[{ on := 0, ground := Ground.data }], guard := none },
  { dst := some 8, op := Op.fieldAddr 50 (Operand.tmp 7) 3, type := 0, pos := "desk.go:200", after := #[{ on := 1, ground := Ground.data }], guard := none },
  { dst := some 9, op := Op.load 47 (Operand.tmp 8), type := 47, pos := "desk.go:200", after := #[{ on := 2, ground := Ground.data }], guard := none },
  { dst := some 10, op := Op.load 3 (Operand.tmp 1), type := 3, pos := "desk.go:200", after := #[], guard := none },
  { dst := some 11, op := Op.call { callee := Callee.value (Operand.func 189), args := #[Operand.tmp 9, Operand.tmp 10], argTypes := #[47, 3] }, type := 203, pos := "desk.go:200", after := #[{ on := 3, ground := Ground.data }, { on := 4, ground := Ground.data }], guard := none },
  { dst := some 5, op := Op.move (Operand.tmp 11), type := 203, pos := "desk.go:200", after := #[{ on := 5, ground := Ground.data }], guard := none },
  { dst := some 12, op := Op.extract (Operand.tmp 5) 0, type := 47, pos := "desk.go:200", after := #[{ on := 6, ground := Ground.data }], guard := none },
  { dst := some 13, op := Op.extract (Operand.tmp 5) 1, type := 64, pos := "desk.go:200", after := #[{ on := 6, ground := Ground.data }, { on := 10, ground := Ground.gcOnly Departure.lateStores }], guard := none },
  { dst := some 3, op := Op.alloc 47, type := 0, pos := "desk.go:200", after := #[], guard := none },
  { dst := none, op := Op.store 47 (Operand.tmp 3) (Operand.tmp 12), type := 0, pos := "desk.go:200", after := #[{ on := 9, ground := Ground.data }, { on := 7, ground := Ground.data }, { on := 5, ground := Ground.chain }, { on := 0, ground := Ground.phase }, { on := 1, ground := Ground.phase }, { on := 2, ground := Ground.phase }, { on := 3, ground := Ground.phase }, { on := 4, ground := Ground.phase }, { on := 5, ground := Ground.phase }, { on := 6, ground := Ground.phase }, { on := 7, ground := Ground.phase }, { on := 8, ground := Ground.textOnly Departure.lateStores }, { on := 9, ground := Ground.phase }], guard := none },
  { dst := some 4, op := Op.assign (Operand.tmp 13), type := 64, pos := "desk.go:200", after := #[{ on := 8, ground := Ground.data }, { on := 10, ground := Ground.chain }, { on := 0, ground := Ground.phase }, { on := 1, ground := Ground.phase }, { on := 2, ground := Ground.phase }, { on := 3, ground := Ground.phase }, { on := 4, ground := Ground.phase }, { on := 5, ground := Ground.phase }, { on := 6, ground := Ground.phase }, { on := 7, ground := Ground.phase }, { on := 8, ground := Ground.phase }, { on := 9, ground := Ground.phase }, { on := 10, ground := Ground.phase }], guard := none }]
set_option maxRecDepth 100000 in
set_option maxHeartbeats 3200000 in
theorem kleast_5_9 {w0 : World} {g bd bx : Nat} {s : DSt} {An : Option Addr} {nn cn : Nat} {x : Int} (hs : Si w0 An nn cn s.nums) (hB : botErr 3 s.nums.length s.nums = 0) (hg : g < w0.heap.size) (hbd : bd < w0.heap.size) (hbx : bx < w0.heap.size) (qd : w0.cell? ⟨bd, 0, none⟩ = some (.pointer (some ⟨g, 0, none⟩))) (qbx : w0.cell? ⟨bx, 0, none⟩ = some (.int .i64 x)) (c7 : w0.cell? ⟨g, 7, none⟩ = some (.int .i64 3)) (c8 : w0.cell? ⟨g, 8, none⟩ = some (.slice An nn cn)) {x2 x4 x14 x15 x16 x17 x18 x19 x20 x21 x22 : Value} {df : List Deferred} {Q : Exit → Act → World → Prop} (hQp : ∀ c (a : Act) d v w, Q (.panic c) (a.put d v) w → Q (.panic c) a w)
    (hfin : ∀ (E : Int) (K' : Int) (zs : List Int) (A' : Option Addr) (n' : Nat) (c' : Nat) (gy : Nat) (z : World), Blk z gy 47 #[.int .i64 K', .slice A' n' c'] → Own z w0.heap.size 3 1 A' n' c' (ints zs) → (E = 0 ∧ 3 = K' ∧ leastS s x = (0, { s with nums := zs }, toldOf zs)) ∨ (E ≠ 0 ∧ leastS s x = (E, s, [])) → w0.heap.size ≤ gy → Below w0.heap.size w0 z → Q .normal { tmps := #[.pointer (some ⟨bd, 0, none⟩), .pointer (some ⟨bx, 0, none⟩), x2, .pointer (some ⟨gy, 0, none⟩), .int .i64 E, .tuple #[.agg #[.int .i64 K', .slice A' n' c'], .int .i64 E], .pointer (some ⟨g, 0, none⟩), .pointer (some ⟨g, 0, none⟩), .pointer (some ⟨g, 7, none⟩), .agg #[.int .i64 3, .slice An nn cn], .int .i64 x, .tuple #[.agg #[.int .i64 K', .slice A' n' c'], .int .i64 E], .agg #[.int .i64 K', .slice A' n' c'], .int .i64 E, x14, x15, x16, x17, x18, x19, x20, x21, x22], defers := df } z)
    {E : Int} {K' : Int} {zs : List Int} {A' : Option Addr} {n' : Nat} {c' : Nat} {gy : Nat} {kk : Nat} {ll : Array Bool} {aa : Act} {W : World} (hk : kk = 2) (hl : ll = #[true, true, true, true, true, true, true, true, true, true, false, false])
    (ha : aa = { tmps := #[.pointer (some ⟨bd, 0, none⟩), .pointer (some ⟨bx, 0, none⟩), x2, .pointer (some ⟨gy, 0, none⟩), x4, .tuple #[.agg #[.int .i64 K', .slice A' n' c'], .int .i64 E], .pointer (some ⟨g, 0, none⟩), .pointer (some ⟨g, 0, none⟩), .pointer (some ⟨g, 7, none⟩), .agg #[.int .i64 3, .slice An nn cn], .int .i64 x, .tuple #[.agg #[.int .i64 K', .slice A' n' c'], .int .i64 E], .agg #[.int .i64 K', .slice A' n' c'], .int .i64 E, x14, x15, x16, x17, x18, x19, x20, x21, x22], defers := df })
    (kb : Below w0.heap.size w0 W) (oR : Own W w0.heap.size 3 1 A' n' c' (ints zs)) (hF : (E = 0 ∧ 3 = K' ∧ leastS s x = (0, { s with nums := zs }, toldOf zs)) ∨ (E ≠ 0 ∧ leastS s x = (E, s, []))) (bY : Blk W gy 47 #[.int .i64 0, .slice none 0 0]) (hgy : w0.heap.size ≤ gy) :
    anyTill Tryz.prog .any kleast_ops Q (Till (fun w' => w'.cell? ⟨bd, 0, none⟩ = some (.pointer (some ⟨g, 0, none⟩)) ∧ w'.cell? ⟨bx, 0, none⟩ = some (.int .i64 x) ∧ w'.cell? ⟨g, 7, none⟩ = some (.int .i64 3) ∧ w'.cell? ⟨g, 8, none⟩ = some (.slice An nn cn)) (fun _ => True) []) kk ll aa W := by
  subst hk hl ha
  refine anyTill.ready (rs := [10]) (by kernel_rfl) (by simp) ?_
  refine AllTill.cons (o := { dst := none, op := Op.store 47 (Operand.tmp 3) (Operand.tmp 12), type := 0, pos := "desk.go:200", after := #[{ on := 9, ground := Ground.data }, { on := 7, ground := Ground.data }, { on := 5, ground := Ground.chain }, { on := 0, ground := Ground.phase }, { on := 1, ground := Ground.phase }, { on := 2, ground := Ground.phase }, { on := 3, ground := Ground.phase }, { on := 4, ground := Ground.phase }, { on := 5, ground := Ground.phase }, { on := 6, ground := Ground.phase }, { on := 7, ground := Ground.phase }, { on := 8, ground := Ground.textOnly Departure.lateStores }, { on := 9, ground := Ground.phase }], guard := none }) rfl (fun K hK => ?_) AllTill.nil
  · have fr0 := bY.free 0
    have fr1 := bY.free 1
    have fc0 := bY.at_ (i := 0) rfl
    have fc1 := bY.at_ (i := 1) rfl
    go_simp
    refine at_wd ?_
    intro z hz
    have n_kb : Below w0.heap.size w0 z := by rw [hz]; repeat' (first | assumption | with_reducible exact Below.refl _ _ | with_reducible apply Below.drew | with_reducible apply below_drewN | with_reducible apply below_alloc | with_reducible refine below_set ?_ ?_ _ | (simp only [World.size_alloc, World.heap_drewN]; omega) | (simp; omega))
    have bS : Blk z gy 47 #[.int .i64 K', .slice A' n' c'] := by rw [hz]; have t := ((bY).set 0 (.int .i64 K')).set 1 (.slice A' n' c'); simp at t; exact t
    have hne : ∀ g', A' = some ⟨g', 0, none⟩ → g' ≠ gy := fun g' e e2 => Own.apart_blk oR bY (by decide) (by rw [e, e2]; rfl)
    have oS := ((((oR).far (p := ⟨gy, 0, none⟩) hne (.int .i64 K'))).far (p := ⟨gy, 1, none⟩) hne (.slice A' n' c'))
    have o2S : Own z w0.heap.size 3 1 A' n' c' (ints zs) := by rw [hz]; exact oS
    refine hK.out _ _ (Till.over (by rfl) (by (refine ⟨kept (B := w0.heap.size) (p := ⟨bd, 0, none⟩) hbd qd ?_, kept (B := w0.heap.size) (p := ⟨bx, 0, none⟩) hbx qbx ?_, kept (B := w0.heap.size) (p := ⟨g, 7, none⟩) hg c7 ?_, kept (B := w0.heap.size) (p := ⟨g, 8, none⟩) hg c8 ?_⟩ <;> repeat' (first | assumption | with_reducible exact Below.refl _ _ | with_reducible apply Below.drew | with_reducible apply below_drewN | with_reducible apply below_alloc | with_reducible refine below_set ?_ ?_ _ | (simp only [World.size_alloc, World.heap_drewN]; omega) | (simp; omega))))) (fun hS => ?_)
    clear hK K
    try simp only [Act.put, List.setIfInBounds_toArray, List.set_cons_zero, List.set_cons_succ]
    refine anyTill.last (i := 11) (oi := { dst := some 4, op := Op.assign (Operand.tmp 13), type := 64, pos := "desk.go:200", after := #[{ on := 8, ground := Ground.data }, { on := 10, ground := Ground.chain }, { on := 0, ground := Ground.phase }, { on := 1, ground := Ground.phase }, { on := 2, ground := Ground.phase }, { on := 3, ground := Ground.phase }, { on := 4, ground := Ground.phase }, { on := 5, ground := Ground.phase }, { on := 6, ground := Ground.phase }, { on := 7, ground := Ground.phase }, { on := 8, ground := Ground.phase }, { on := 9, ground := Ground.phase }, { on := 10, ground := Ground.phase }], guard := none }) (v := ?_) rfl (by kernel_rfl) (by kernel_rfl) (by kernel_rfl) (fun _ _ _ h => hQp _ _ _ _ _ h) (by rfl) (Or.inl ⟨by rfl, ?_⟩) hS (fun hS => ?_)
    rotate_left
    · (intro w hSw; (try dsimp only at hSw); go_split_ands; go_simp; try with_reducible rfl)
    try simp only [Act.put, List.setIfInBounds_toArray, List.set_cons_zero, List.set_cons_succ]
    refine anyTill.fin (by kernel_rfl) ?_ _
    exact hfin _ _ _ _ _ _ _ _ bS o2S hF hgy n_kb
set_option maxRecDepth 100000 in
set_option maxHeartbeats 3200000 in
theorem kleast_5 {w0 : World} {g bd bx : Nat} {s : DSt} {An : Option Addr} {nn cn : Nat} {x : Int} (hs : Si w0 An nn cn s.nums) (hB : botErr 3 s.nums.length s.nums = 0) (hg : g < w0.heap.size) (hbd : bd < w0.heap.size) (hbx : bx < w0.heap.size) (qd : w0.cell? ⟨bd, 0, none⟩ = some (.pointer (some ⟨g, 0, none⟩))) (qbx : w0.cell? ⟨bx, 0, none⟩ = some (.int .i64 x)) (c7 : w0.cell? ⟨g, 7, none⟩ = some (.int .i64 3)) (c8 : w0.cell? ⟨g, 8, none⟩ = some (.slice An nn cn)) {x2 x3 x4 x14 x15 x16 x17 x18 x19 x20 x21 x22 : Value} {df : List Deferred} {Q : Exit → Act → World → Prop} (hQp : ∀ c (a : Act) d v w, Q (.panic c) (a.put d v) w → Q (.panic c) a w)
    (hfin : ∀ (E : Int) (K' : Int) (zs : List Int) (A' : Option Addr) (n' : Nat) (c' : Nat) (gy : Nat) (z : World), Blk z gy 47 #[.int .i64 K', .slice A' n' c'] → Own z w0.heap.size 3 1 A' n' c' (ints zs) → (E = 0 ∧ 3 = K' ∧ leastS s x = (0, { s with nums := zs }, toldOf zs)) ∨ (E ≠ 0 ∧ leastS s x = (E, s, [])) → w0.heap.size ≤ gy → Below w0.heap.size w0 z → Q .normal { tmps := #[.pointer (some ⟨bd, 0, none⟩), .pointer (some ⟨bx, 0, none⟩), x2, .pointer (some ⟨gy, 0, none⟩), .int .i64 E, .tuple #[.agg #[.int .i64 K', .slice A' n' c'], .int .i64 E], .pointer (some ⟨g, 0, none⟩), .pointer (some ⟨g, 0, none⟩), .pointer (some ⟨g, 7, none⟩), .agg #[.int .i64 3, .slice An nn cn], .int .i64 x, .tuple #[.agg #[.int .i64 K', .slice A' n' c'], .int .i64 E], .agg #[.int .i64 K', .slice A' n' c'], .int .i64 E, x14, x15, x16, x17, x18, x19, x20, x21, x22], defers := df } z)
    {E : Int} {K' : Int} {zs : List Int} {A' : Option Addr} {n' : Nat} {c' : Nat} {kk : Nat} {ll : Array Bool} {aa : Act} {W : World} (hk : kk = 3) (hl : ll = #[true, true, true, true, true, true, true, true, true, false, false, false])
    (ha : aa = { tmps := #[.pointer (some ⟨bd, 0, none⟩), .pointer (some ⟨bx, 0, none⟩), x2, x3, x4, .tuple #[.agg #[.int .i64 K', .slice A' n' c'], .int .i64 E], .pointer (some ⟨g, 0, none⟩), .pointer (some ⟨g, 0, none⟩), .pointer (some ⟨g, 7, none⟩), .agg #[.int .i64 3, .slice An nn cn], .int .i64 x, .tuple #[.agg #[.int .i64 K', .slice A' n' c'], .int .i64 E], .agg #[.int .i64 K', .slice A' n' c'], .int .i64 E, x14, x15, x16, x17, x18, x19, x20, x21, x22], defers := df })
    (kb : Below w0.heap.size w0 W) (oR : Own W w0.heap.size 3 1 A' n' c' (ints zs)) (hF : (E = 0 ∧ 3 = K' ∧ leastS s x = (0, { s with nums := zs }, toldOf zs)) ∨ (E ≠ 0 ∧ leastS s x = (E, s, []))) :
    anyTill Tryz.prog .any kleast_ops Q (Till (fun w' => w'.cell? ⟨bd, 0, none⟩ = some (.pointer (some ⟨g, 0, none⟩)) ∧ w'.cell? ⟨bx, 0, none⟩ = some (.int .i64 x) ∧ w'.cell? ⟨g, 7, none⟩ = some (.int .i64 3) ∧ w'.cell? ⟨g, 8, none⟩ = some (.slice An nn cn)) (fun _ => True) []) kk ll aa W := by
  subst hk hl ha
  refine anyTill.ready (rs := [9]) (by kernel_rfl) (by simp) ?_
  refine AllTill.cons (o := { dst := some 3, op := Op.alloc 47, type := 0, pos := "desk.go:200", after := #[], guard := none }) rfl (fun K hK => ?_) AllTill.nil
  · go_simp
    refine at_wd ?_
    intro z hz
    have ke : Below W.heap.size W z := by rw [hz]; repeat' (first | assumption | with_reducible exact Below.refl _ _ | with_reducible apply Below.drew | with_reducible apply below_drewN | with_reducible apply below_alloc | with_reducible refine below_set ?_ ?_ _ | (simp only [World.size_alloc, World.heap_drewN]; omega) | (simp; omega))
    have hsz := kb.size
    have n_kb : Below w0.heap.size w0 z := below_on kb ke
    have n_oR : Own z w0.heap.size 3 1 A' n' c' (ints zs) := (oR).below ke (Nat.le_refl _)
    have n_hF : (E = 0 ∧ 3 = K' ∧ leastS s x = (0, { s with nums := zs }, toldOf zs)) ∨ (E ≠ 0 ∧ leastS s x = (E, s, [])) := hF
    have n_bY : Blk z W.heap.size 47 #[.int .i64 0, .slice none 0 0] := by rw [hz]; exact Blk.new _ _ _
    have n_hgy : w0.heap.size ≤ W.heap.size := by first | exact hsz | (simp; omega)
    refine hK.out _ _ (Till.over (by rfl) (by (refine ⟨kept (B := w0.heap.size) (p := ⟨bd, 0, none⟩) hbd qd ?_, kept (B := w0.heap.size) (p := ⟨bx, 0, none⟩) hbx qbx ?_, kept (B := w0.heap.size) (p := ⟨g, 7, none⟩) hg c7 ?_, kept (B := w0.heap.size) (p := ⟨g, 8, none⟩) hg c8 ?_⟩ <;> repeat' (first | assumption | with_reducible exact Below.refl _ _ | with_reducible apply Below.drew | with_reducible apply below_drewN | with_reducible apply below_alloc | with_reducible refine below_set ?_ ?_ _ | (simp only [World.size_alloc, World.heap_drewN]; omega) | (simp; omega))))) (fun hS => ?_)
    clear hK K
    try simp only [Act.put, List.setIfInBounds_toArray, List.set_cons_zero, List.set_cons_succ]
    exact kleast_5_9 hs hB hg hbd hbx qd qbx c7 c8 hQp hfin (by rfl) (by kernel_rfl) (by rfl) n_kb n_oR n_hF n_bY n_hgy
set_option maxRecDepth 100000 in
set_option maxHeartbeats 3200000 in
theorem kleast_9 {w0 : World} {g bd bx : Nat} {s : DSt} {An : Option Addr} {nn cn : Nat} {x : Int} (hs : Si w0 An nn cn s.nums) (hB : botErr 3 s.nums.length s.nums = 0) (hg : g < w0.heap.size) (hbd : bd < w0.heap.size) (hbx : bx < w0.heap.size) (qd : w0.cell? ⟨bd, 0, none⟩ = some (.pointer (some ⟨g, 0, none⟩))) (qbx : w0.cell? ⟨bx, 0, none⟩ = some (.int .i64 x)) (c7 : w0.cell? ⟨g, 7, none⟩ = some (.int .i64 3)) (c8 : w0.cell? ⟨g, 8, none⟩ = some (.slice An nn cn)) {x2 x4 x5 x11 x12 x13 x14 x15 x16 x17 x18 x19 x20 x21 x22 : Value} {df : List Deferred} {Q : Exit → Act → World → Prop} (hQp : ∀ c (a : Act) d v w, Q (.panic c) (a.put d v) w → Q (.panic c) a w)
    (hfin : ∀ (E : Int) (K' : Int) (zs : List Int) (A' : Option Addr) (n' : Nat) (c' : Nat) (gy : Nat) (z : World), Blk z gy 47 #[.int .i64 K', .slice A' n' c'] → Own z w0.heap.size 3 1 A' n' c' (ints zs) → (E = 0 ∧ 3 = K' ∧ leastS s x = (0, { s with nums := zs }, toldOf zs)) ∨ (E ≠ 0 ∧ leastS s x = (E, s, [])) → w0.heap.size ≤ gy → Below w0.heap.size w0 z → Q .normal { tmps := #[.pointer (some ⟨bd, 0, none⟩), .pointer (some ⟨bx, 0, none⟩), x2, .pointer (some ⟨gy, 0, none⟩), .int .i64 E, .tuple #[.agg #[.int .i64 K', .slice A' n' c'], .int .i64 E], .pointer (some ⟨g, 0, none⟩), .pointer (some ⟨g, 0, none⟩), .pointer (some ⟨g, 7, none⟩), .agg #[.int .i64 3, .slice An nn cn], .int .i64 x, .tuple #[.agg #[.int .i64 K', .slice A' n' c'], .int .i64 E], .agg #[.int .i64 K', .slice A' n' c'], .int .i64 E, x14, x15, x16, x17, x18, x19, x20, x21, x22], defers := df } z)
    {gy : Nat} {kk : Nat} {ll : Array Bool} {aa : Act} {W : World} (hk : kk = 6) (hl : ll = #[true, true, true, true, true, false, false, false, false, true, false, false])
    (ha : aa = { tmps := #[.pointer (some ⟨bd, 0, none⟩), .pointer (some ⟨bx, 0, none⟩), x2, .pointer (some ⟨gy, 0, none⟩), x4, x5, .pointer (some ⟨g, 0, none⟩), .pointer (some ⟨g, 0, none⟩), .pointer (some ⟨g, 7, none⟩), .agg #[.int .i64 3, .slice An nn cn], .int .i64 x, x11, x12, x13, x14, x15, x16, x17, x18, x19, x20, x21, x22], defers := df })
    (kb : Below w0.heap.size w0 W) (bY : Blk W gy 47 #[.int .i64 0, .slice none 0 0]) (hgy : w0.heap.size ≤ gy) :
    anyTill Tryz.prog .any kleast_ops Q (Till (fun w' => w'.cell? ⟨bd, 0, none⟩ = some (.pointer (some ⟨g, 0, none⟩)) ∧ w'.cell? ⟨bx, 0, none⟩ = some (.int .i64 x) ∧ w'.cell? ⟨g, 7, none⟩ = some (.int .i64 3) ∧ w'.cell? ⟨g, 8, none⟩ = some (.slice An nn cn)) (fun _ => True) []) kk ll aa W := by
  subst hk hl ha
  refine anyTill.ready (rs := [5]) (by kernel_rfl) (by simp) ?_
  refine AllTill.cons (o := { dst := some 11, op := Op.call { callee := Callee.value (Operand.func 189), args := #[Operand.tmp 9, Operand.tmp 10], argTypes := #[47, 3] }, type := 203, pos := "desk.go:200", after := #[{ on := 3, ground := Ground.data }, { on := 4, ground := Ground.data }], guard := none }) rfl (fun K hK => ?_) AllTill.nil
  · go_wp2_with fail
    go_at_call 189
    refine (lput_any (x := x) (hs.on (below_on kb (by repeat' (first | assumption | with_reducible exact Below.refl _ _ | with_reducible apply Below.drew | with_reducible apply below_drewN | with_reducible apply below_alloc | with_reducible refine below_set ?_ ?_ _ | (simp only [World.size_alloc, World.heap_drewN]; omega) | (simp; omega))))) hB).mono ?_
    rintro e z ⟨E, K', zs, A', n', c', rfl, oR, be, hF⟩
    have ke : Below W.heap.size W z := below_on (by repeat' (first | assumption | with_reducible exact Below.refl _ _ | with_reducible apply Below.drew | with_reducible apply below_drewN | with_reducible apply below_alloc | with_reducible refine below_set ?_ ?_ _ | (simp only [World.size_alloc, World.heap_drewN]; omega) | (simp; omega))) be
    have n_kb : Below w0.heap.size w0 z := below_on kb ke
    have hsz := kb.size
    have n_oR : Own z w0.heap.size 3 1 A' n' c' (ints zs) := oR.mono (by first | exact hsz | (simp; omega))
    have n_hF : (E = 0 ∧ 3 = K' ∧ leastS s x = (0, { s with nums := zs }, toldOf zs)) ∨ (E ≠ 0 ∧ leastS s x = (E, s, [])) := hF
    have n_bY : Blk z gy 47 #[.int .i64 0, .slice none 0 0] := (bY).below ke (bY).lt
    have n_hgy : w0.heap.size ≤ gy := hgy
    refine hK.out _ _ (Till.over (by rfl) (by (refine ⟨kept (B := w0.heap.size) (p := ⟨bd, 0, none⟩) hbd qd ?_, kept (B := w0.heap.size) (p := ⟨bx, 0, none⟩) hbx qbx ?_, kept (B := w0.heap.size) (p := ⟨g, 7, none⟩) hg c7 ?_, kept (B := w0.heap.size) (p := ⟨g, 8, none⟩) hg c8 ?_⟩ <;> repeat' (first | assumption | with_reducible exact Below.refl _ _ | with_reducible apply Below.drew | with_reducible apply below_drewN | with_reducible apply below_alloc | with_reducible refine below_set ?_ ?_ _ | (simp only [World.size_alloc, World.heap_drewN]; omega) | (simp; omega))))) (fun hS => ?_)
    clear hK K
    try simp only [Act.put, List.setIfInBounds_toArray, List.set_cons_zero, List.set_cons_succ]
    refine anyTill.last (i := 6) (oi := { dst := some 5, op := Op.move (Operand.tmp 11), type := 203, pos := "desk.go:200", after := #[{ on := 5, ground := Ground.data }], guard := none }) (v := ?_) rfl (by kernel_rfl) (by kernel_rfl) (by kernel_rfl) (fun _ _ _ h => hQp _ _ _ _ _ h) (by rfl) (Or.inl ⟨by rfl, ?_⟩) hS (fun hS => ?_)
    rotate_left
    · (intro w hSw; (try dsimp only at hSw); go_split_ands; go_simp; try with_reducible rfl)
    try simp only [Act.put, List.setIfInBounds_toArray, List.set_cons_zero, List.set_cons_succ]
    refine anyTill.last (i := 7) (oi := { dst := some 12, op := Op.extract (Operand.tmp 5) 0, type := 47, pos := "desk.go:200", after := #[{ on := 6, ground := Ground.data }], guard := none }) (v := ?_) rfl (by kernel_rfl) (by kernel_rfl) (by kernel_rfl) (fun _ _ _ h => hQp _ _ _ _ _ h) (by rfl) (Or.inl ⟨by rfl, ?_⟩) hS (fun hS => ?_)
    rotate_left
    · (intro w hSw; (try dsimp only at hSw); go_split_ands; go_simp; try with_reducible rfl)
    try simp only [Act.put, List.setIfInBounds_toArray, List.set_cons_zero, List.set_cons_succ]
    refine anyTill.last (i := 8) (oi := { dst := some 13, op := Op.extract (Operand.tmp 5) 1, type := 64, pos := "desk.go:200", after := #[{ on := 6, ground := Ground.data }, { on := 10, ground := Ground.gcOnly Departure.lateStores }], guard := none }) (v := ?_) rfl (by kernel_rfl) (by kernel_rfl) (by kernel_rfl) (fun _ _ _ h => hQp _ _ _ _ _ h) (by rfl) (Or.inl ⟨by rfl, ?_⟩) hS (fun hS => ?_)
    rotate_left
    · (intro w hSw; (try dsimp only at hSw); go_split_ands; go_simp; try with_reducible rfl)
    try simp only [Act.put, List.setIfInBounds_toArray, List.set_cons_zero, List.set_cons_succ]
    exact kleast_5_9 hs hB hg hbd hbx qd qbx c7 c8 hQp hfin (by rfl) (by kernel_rfl) (by rfl) n_kb n_oR n_hF n_bY n_hgy
set_option maxRecDepth 100000 in
set_option maxHeartbeats 3200000 in
theorem kleast_o {w0 : World} {g bd bx : Nat} {s : DSt} {An : Option Addr} {nn cn : Nat} {x : Int} (hs : Si w0 An nn cn s.nums) (hB : botErr 3 s.nums.length s.nums = 0) (hg : g < w0.heap.size) (hbd : bd < w0.heap.size) (hbx : bx < w0.heap.size) (qd : w0.cell? ⟨bd, 0, none⟩ = some (.pointer (some ⟨g, 0, none⟩))) (qbx : w0.cell? ⟨bx, 0, none⟩ = some (.int .i64 x)) (c7 : w0.cell? ⟨g, 7, none⟩ = some (.int .i64 3)) (c8 : w0.cell? ⟨g, 8, none⟩ = some (.slice An nn cn)) {x2 x3 x4 x5 x11 x12 x13 x14 x15 x16 x17 x18 x19 x20 x21 x22 : Value} {df : List Deferred} {Q : Exit → Act → World → Prop} (hQp : ∀ c (a : Act) d v w, Q (.panic c) (a.put d v) w → Q (.panic c) a w)
    (hfin : ∀ (E : Int) (K' : Int) (zs : List Int) (A' : Option Addr) (n' : Nat) (c' : Nat) (gy : Nat) (z : World), Blk z gy 47 #[.int .i64 K', .slice A' n' c'] → Own z w0.heap.size 3 1 A' n' c' (ints zs) → (E = 0 ∧ 3 = K' ∧ leastS s x = (0, { s with nums := zs }, toldOf zs)) ∨ (E ≠ 0 ∧ leastS s x = (E, s, [])) → w0.heap.size ≤ gy → Below w0.heap.size w0 z → Q .normal { tmps := #[.pointer (some ⟨bd, 0, none⟩), .pointer (some ⟨bx, 0, none⟩), x2, .pointer (some ⟨gy, 0, none⟩), .int .i64 E, .tuple #[.agg #[.int .i64 K', .slice A' n' c'], .int .i64 E], .pointer (some ⟨g, 0, none⟩), .pointer (some ⟨g, 0, none⟩), .pointer (some ⟨g, 7, none⟩), .agg #[.int .i64 3, .slice An nn cn], .int .i64 x, .tuple #[.agg #[.int .i64 K', .slice A' n' c'], .int .i64 E], .agg #[.int .i64 K', .slice A' n' c'], .int .i64 E, x14, x15, x16, x17, x18, x19, x20, x21, x22], defers := df } z)
     {kk : Nat} {ll : Array Bool} {aa : Act} {W : World} (hk : kk = 7) (hl : ll = #[true, true, true, true, true, false, false, false, false, false, false, false])
    (ha : aa = { tmps := #[.pointer (some ⟨bd, 0, none⟩), .pointer (some ⟨bx, 0, none⟩), x2, x3, x4, x5, .pointer (some ⟨g, 0, none⟩), .pointer (some ⟨g, 0, none⟩), .pointer (some ⟨g, 7, none⟩), .agg #[.int .i64 3, .slice An nn cn], .int .i64 x, x11, x12, x13, x14, x15, x16, x17, x18, x19, x20, x21, x22], defers := df })
    (kb : Below w0.heap.size w0 W) :
    anyTill Tryz.prog .any kleast_ops Q (Till (fun w' => w'.cell? ⟨bd, 0, none⟩ = some (.pointer (some ⟨g, 0, none⟩)) ∧ w'.cell? ⟨bx, 0, none⟩ = some (.int .i64 x) ∧ w'.cell? ⟨g, 7, none⟩ = some (.int .i64 3) ∧ w'.cell? ⟨g, 8, none⟩ = some (.slice An nn cn)) (fun _ => True) []) kk ll aa W := by
  subst hk hl ha
  refine anyTill.ready (rs := [5, 9]) (by kernel_rfl) (by simp) ?_
  refine AllTill.cons (o := { dst := some 11, op := Op.call { callee := Callee.value (Operand.func 189), args := #[Operand.tmp 9, Operand.tmp 10], argTypes := #[47, 3] }, type := 203, pos := "desk.go:200", after := #[{ on := 3, ground := Ground.data }, { on := 4, ground := Ground.data }], guard := none }) rfl (fun K hK => ?_) (AllTill.cons (o := { dst := some 3, op := Op.alloc 47, type := 0, pos := "desk.go:200", after := #[], guard := none }) rfl (fun K hK => ?_) AllTill.nil)
  · go_wp2_with fail
    go_at_call 189
    refine (lput_any (x := x) (hs.on (below_on kb (by repeat' (first | assumption | with_reducible exact Below.refl _ _ | with_reducible apply Below.drew | with_reducible apply below_drewN | with_reducible apply below_alloc | with_reducible refine below_set ?_ ?_ _ | (simp only [World.size_alloc, World.heap_drewN]; omega) | (simp; omega))))) hB).mono ?_
    rintro e z ⟨E, K', zs, A', n', c', rfl, oR, be, hF⟩
    have ke : Below W.heap.size W z := below_on (by repeat' (first | assumption | with_reducible exact Below.refl _ _ | with_reducible apply Below.drew | with_reducible apply below_drewN | with_reducible apply below_alloc | with_reducible refine below_set ?_ ?_ _ | (simp only [World.size_alloc, World.heap_drewN]; omega) | (simp; omega))) be
    have n_kb : Below w0.heap.size w0 z := below_on kb ke
    have hsz := kb.size
    have n_oR : Own z w0.heap.size 3 1 A' n' c' (ints zs) := oR.mono (by first | exact hsz | (simp; omega))
    have n_hF : (E = 0 ∧ 3 = K' ∧ leastS s x = (0, { s with nums := zs }, toldOf zs)) ∨ (E ≠ 0 ∧ leastS s x = (E, s, [])) := hF
    refine hK.out _ _ (Till.over (by rfl) (by (refine ⟨kept (B := w0.heap.size) (p := ⟨bd, 0, none⟩) hbd qd ?_, kept (B := w0.heap.size) (p := ⟨bx, 0, none⟩) hbx qbx ?_, kept (B := w0.heap.size) (p := ⟨g, 7, none⟩) hg c7 ?_, kept (B := w0.heap.size) (p := ⟨g, 8, none⟩) hg c8 ?_⟩ <;> repeat' (first | assumption | with_reducible exact Below.refl _ _ | with_reducible apply Below.drew | with_reducible apply below_drewN | with_reducible apply below_alloc | with_reducible refine below_set ?_ ?_ _ | (simp only [World.size_alloc, World.heap_drewN]; omega) | (simp; omega))))) (fun hS => ?_)
    clear hK K
    try simp only [Act.put, List.setIfInBounds_toArray, List.set_cons_zero, List.set_cons_succ]
    refine anyTill.last (i := 6) (oi := { dst := some 5, op := Op.move (Operand.tmp 11), type := 203, pos := "desk.go:200", after := #[{ on := 5, ground := Ground.data }], guard := none }) (v := ?_) rfl (by kernel_rfl) (by kernel_rfl) (by kernel_rfl) (fun _ _ _ h => hQp _ _ _ _ _ h) (by rfl) (Or.inl ⟨by rfl, ?_⟩) hS (fun hS => ?_)
    rotate_left
    · (intro w hSw; (try dsimp only at hSw); go_split_ands; go_simp; try with_reducible rfl)
    try simp only [Act.put, List.setIfInBounds_toArray, List.set_cons_zero, List.set_cons_succ]
    refine anyTill.last (i := 7) (oi := { dst := some 12, op := Op.extract (Operand.tmp 5) 0, type := 47, pos := "desk.go:200", after := #[{ on := 6, ground := Ground.data }], guard := none }) (v := ?_) rfl (by kernel_rfl) (by kernel_rfl) (by kernel_rfl) (fun _ _ _ h => hQp _ _ _ _ _ h) (by rfl) (Or.inl ⟨by rfl, ?_⟩) hS (fun hS => ?_)
    rotate_left
    · (intro w hSw; (try dsimp only at hSw); go_split_ands; go_simp; try with_reducible rfl)
    try simp only [Act.put, List.setIfInBounds_toArray, List.set_cons_zero, List.set_cons_succ]
    refine anyTill.last (i := 8) (oi := { dst := some 13, op := Op.extract (Operand.tmp 5) 1, type := 64, pos := "desk.go:200", after := #[{ on := 6, ground := Ground.data }, { on := 10, ground := Ground.gcOnly Departure.lateStores }], guard := none }) (v := ?_) rfl (by kernel_rfl) (by kernel_rfl) (by kernel_rfl) (fun _ _ _ h => hQp _ _ _ _ _ h) (by rfl) (Or.inl ⟨by rfl, ?_⟩) hS (fun hS => ?_)
    rotate_left
    · (intro w hSw; (try dsimp only at hSw); go_split_ands; go_simp; try with_reducible rfl)
    try simp only [Act.put, List.setIfInBounds_toArray, List.set_cons_zero, List.set_cons_succ]
    exact kleast_5 hs hB hg hbd hbx qd qbx c7 c8 hQp hfin (by rfl) (by kernel_rfl) (by rfl) n_kb n_oR n_hF
  · go_simp
    refine at_wd ?_
    intro z hz
    have ke : Below W.heap.size W z := by rw [hz]; repeat' (first | assumption | with_reducible exact Below.refl _ _ | with_reducible apply Below.drew | with_reducible apply below_drewN | with_reducible apply below_alloc | with_reducible refine below_set ?_ ?_ _ | (simp only [World.size_alloc, World.heap_drewN]; omega) | (simp; omega))
    have hsz := kb.size
    have n_kb : Below w0.heap.size w0 z := below_on kb ke
    have n_bY : Blk z W.heap.size 47 #[.int .i64 0, .slice none 0 0] := by rw [hz]; exact Blk.new _ _ _
    have n_hgy : w0.heap.size ≤ W.heap.size := by first | exact hsz | (simp; omega)
    refine hK.out _ _ (Till.over (by rfl) (by (refine ⟨kept (B := w0.heap.size) (p := ⟨bd, 0, none⟩) hbd qd ?_, kept (B := w0.heap.size) (p := ⟨bx, 0, none⟩) hbx qbx ?_, kept (B := w0.heap.size) (p := ⟨g, 7, none⟩) hg c7 ?_, kept (B := w0.heap.size) (p := ⟨g, 8, none⟩) hg c8 ?_⟩ <;> repeat' (first | assumption | with_reducible exact Below.refl _ _ | with_reducible apply Below.drew | with_reducible apply below_drewN | with_reducible apply below_alloc | with_reducible refine below_set ?_ ?_ _ | (simp only [World.size_alloc, World.heap_drewN]; omega) | (simp; omega))))) (fun hS => ?_)
    clear hK K
    try simp only [Act.put, List.setIfInBounds_toArray, List.set_cons_zero, List.set_cons_succ]
    exact kleast_9 hs hB hg hbd hbx qd qbx c7 c8 hQp hfin (by rfl) (by kernel_rfl) (by rfl) n_kb n_bY n_hgy
set_option maxRecDepth 100000 in
set_option maxHeartbeats 3200000 in
theorem kleast_start {w0 : World} {g bd bx : Nat} {s : DSt} {An : Option Addr} {nn cn : Nat} {x : Int} (hs : Si w0 An nn cn s.nums) (hB : botErr 3 s.nums.length s.nums = 0) (hg : g < w0.heap.size) (hbd : bd < w0.heap.size) (hbx : bx < w0.heap.size) (qd : w0.cell? ⟨bd, 0, none⟩ = some (.pointer (some ⟨g, 0, none⟩))) (qbx : w0.cell? ⟨bx, 0, none⟩ = some (.int .i64 x)) (c7 : w0.cell? ⟨g, 7, none⟩ = some (.int .i64 3)) (c8 : w0.cell? ⟨g, 8, none⟩ = some (.slice An nn cn)) {x2 x3 x4 x5 x6 x7 x8 x9 x10 x11 x12 x13 x14 x15 x16 x17 x18 x19 x20 x21 x22 : Value} {df : List Deferred} {Q : Exit → Act → World → Prop} (hQp : ∀ c (a : Act) d v w, Q (.panic c) (a.put d v) w → Q (.panic c) a w)
    (hfin : ∀ (E : Int) (K' : Int) (zs : List Int) (A' : Option Addr) (n' : Nat) (c' : Nat) (gy : Nat) (z : World), Blk z gy 47 #[.int .i64 K', .slice A' n' c'] → Own z w0.heap.size 3 1 A' n' c' (ints zs) → (E = 0 ∧ 3 = K' ∧ leastS s x = (0, { s with nums := zs }, toldOf zs)) ∨ (E ≠ 0 ∧ leastS s x = (E, s, [])) → w0.heap.size ≤ gy → Below w0.heap.size w0 z → Q .normal { tmps := #[.pointer (some ⟨bd, 0, none⟩), .pointer (some ⟨bx, 0, none⟩), x2, .pointer (some ⟨gy, 0, none⟩), .int .i64 E, .tuple #[.agg #[.int .i64 K', .slice A' n' c'], .int .i64 E], .pointer (some ⟨g, 0, none⟩), .pointer (some ⟨g, 0, none⟩), .pointer (some ⟨g, 7, none⟩), .agg #[.int .i64 3, .slice An nn cn], .int .i64 x, .tuple #[.agg #[.int .i64 K', .slice A' n' c'], .int .i64 E], .agg #[.int .i64 K', .slice A' n' c'], .int .i64 E, x14, x15, x16, x17, x18, x19, x20, x21, x22], defers := df } z)
     {kk : Nat} {ll : Array Bool} {aa : Act} {W : World} (hk : kk = 12) (hl : ll = #[false, false, false, false, false, false, false, false, false, false, false, false])
    (ha : aa = { tmps := #[.pointer (some ⟨bd, 0, none⟩), .pointer (some ⟨bx, 0, none⟩), x2, x3, x4, x5, x6, x7, x8, x9, x10, x11, x12, x13, x14, x15, x16, x17, x18, x19, x20, x21, x22], defers := df })
    (kb : Below w0.heap.size w0 W) :
    anyTill Tryz.prog .any kleast_ops Q (Till (fun w' => w'.cell? ⟨bd, 0, none⟩ = some (.pointer (some ⟨g, 0, none⟩)) ∧ w'.cell? ⟨bx, 0, none⟩ = some (.int .i64 x) ∧ w'.cell? ⟨g, 7, none⟩ = some (.int .i64 3) ∧ w'.cell? ⟨g, 8, none⟩ = some (.slice An nn cn)) (fun _ => True) []) kk ll aa W := by
  subst hk hl ha
  refine anyTill.last (i := 0) (oi := { dst := some 6, op := Op.load 39 (Operand.tmp 0), type := 39, pos := "desk.go:200", after := #[], guard := none }) (v := ?_) rfl (by kernel_rfl) (by kernel_rfl) (by kernel_rfl) (fun _ _ _ h => hQp _ _ _ _ _ h) (by rfl) (Or.inl ⟨by rfl, ?_⟩) ⟨by (refine ⟨kept (B := w0.heap.size) (p := ⟨bd, 0, none⟩) hbd qd ?_, kept (B := w0.heap.size) (p := ⟨bx, 0, none⟩) hbx qbx ?_, kept (B := w0.heap.size) (p := ⟨g, 7, none⟩) hg c7 ?_, kept (B := w0.heap.size) (p := ⟨g, 8, none⟩) hg c8 ?_⟩ <;> repeat' (first | assumption | with_reducible exact Below.refl _ _ | with_reducible apply Below.drew | with_reducible apply below_drewN | with_reducible apply below_alloc | with_reducible refine below_set ?_ ?_ _ | (simp only [World.size_alloc, World.heap_drewN]; omega) | (simp; omega))), fun _ => by trivial⟩ (fun hS => ?_)
  rotate_left
  · (intro w hSw; (try dsimp only at hSw); go_split_ands; go_simp; try with_reducible rfl)
  try simp only [Act.put, List.setIfInBounds_toArray, List.set_cons_zero, List.set_cons_succ]
  refine anyTill.last (i := 1) (oi := { dst := some 7, op := Op.nilCheck (Operand.tmp 6), type := 0, pos := "desk.go:200", after := #[{ on := 0, ground := Ground.data }], guard := none }) (v := ?_) rfl (by kernel_rfl) (by kernel_rfl) (by kernel_rfl) (fun _ _ _ h => hQp _ _ _ _ _ h) (by rfl) (Or.inl ⟨by rfl, ?_⟩) hS (fun hS => ?_)
  rotate_left
  · (intro w hSw; (try dsimp only at hSw); go_split_ands; go_simp; try with_reducible rfl)
  try simp only [Act.put, List.setIfInBounds_toArray, List.set_cons_zero, List.set_cons_succ]
  refine anyTill.last (i := 2) (oi := { dst := some 8, op := Op.fieldAddr 50 (Operand.tmp 7) 3, type := 0, pos := "desk.go:200", after := #[{ on := 1, ground := Ground.data }], guard := none }) (v := ?_) rfl (by kernel_rfl) (by kernel_rfl) (by kernel_rfl) (fun _ _ _ h => hQp _ _ _ _ _ h) (by rfl) (Or.inl ⟨by rfl, ?_⟩) hS (fun hS => ?_)
  rotate_left
  · (intro w hSw; (try dsimp only at hSw); go_split_ands; go_simp; try with_reducible rfl)
  try simp only [Act.put, List.setIfInBounds_toArray, List.set_cons_zero, List.set_cons_succ]
  refine anyTill.last (i := 3) (oi := { dst := some 9, op := Op.load 47 (Operand.tmp 8), type := 47, pos := "desk.go:200", after := #[{ on := 2, ground := Ground.data }], guard := none }) (v := ?_) rfl (by kernel_rfl) (by kernel_rfl) (by kernel_rfl) (fun _ _ _ h => hQp _ _ _ _ _ h) (by rfl) (Or.inl ⟨by rfl, ?_⟩) hS (fun hS => ?_)
  rotate_left
  · (intro w hSw; (try dsimp only at hSw); go_split_ands; go_simp; try with_reducible rfl)
  try simp only [Act.put, List.setIfInBounds_toArray, List.set_cons_zero, List.set_cons_succ]
  refine anyTill.last (i := 4) (oi := { dst := some 10, op := Op.load 3 (Operand.tmp 1), type := 3, pos := "desk.go:200", after := #[], guard := none }) (v := ?_) rfl (by kernel_rfl) (by kernel_rfl) (by kernel_rfl) (fun _ _ _ h => hQp _ _ _ _ _ h) (by rfl) (Or.inl ⟨by rfl, ?_⟩) hS (fun hS => ?_)
  rotate_left
  · (intro w hSw; (try dsimp only at hSw); go_split_ands; go_simp; try with_reducible rfl)
  try simp only [Act.put, List.setIfInBounds_toArray, List.set_cons_zero, List.set_cons_succ]
  exact kleast_o hs hB hg hbd hbx qd qbx c7 c8 hQp hfin (by rfl) (by kernel_rfl) (by rfl) kb
section
variable {w : World} {g bd bx b : Nat} {s : DSt} {x : Int}
set_option maxRecDepth 100000 in
set_option maxHeartbeats 6400000 in
theorem keep2_any (hL : LibW b w) (hb : b ≤ g) (hD : DeskAt w g s) (hO : DOk s) 
    (bD : Blk w bd 39 #[.pointer (some ⟨g, 0, none⟩)]) (bbx : Blk w bx 3 #[.int .i64 x]) :
    Calls Tryz.prog 188 #[.pointer (some ⟨bd, 0, none⟩), .pointer (some ⟨bx, 0, none⟩)] w fun e w' => Did w g (leastS s x) e w' := by
  have HL := hide hL
  have HO := hide hO
  have HN := hide (leastS_ok hO x)
  obtain ⟨R, hR⟩ : ∃ R, leastS s x = R := ⟨_, rfl⟩
  rw [hR] at HN ⊢
  have HR := hide hR
  clear hR
  obtain ⟨Ac, nc, cc, Ar, nr, cr, Ai, ni, ci, An, nn, cn, hg, ⟨h1, o1⟩, ⟨h2, o2⟩, ⟨h3, o3⟩, ⟨h4, o4⟩⟩ := hD
  have hgl := hg.lt
  have a7 := hg.at_ (i := 7) (u := .int .i64 3) rfl
  have a8 := hg.at_ (i := 8) (u := .slice An nn cn) rfl
  have ad := bD.at_ (i := 0) (u := .pointer (some ⟨g, 0, none⟩)) rfl
  have abx := bbx.at_ (i := 0) (u := .int .i64 x) rfl
  clear hL hO
  go_enter Tryz.func188, Tryz.ntmps188
  go_wp2_with fail
  refine anyTill.begin (S := Till (fun w' => w'.cell? ⟨bd, 0, none⟩ = some (.pointer (some ⟨g, 0, none⟩)) ∧ w'.cell? ⟨bx, 0, none⟩ = some (.int .i64 x) ∧ w'.cell? ⟨g, 7, none⟩ = some (.int .i64 3) ∧ w'.cell? ⟨g, 8, none⟩ = some (.slice An nn cn)) (fun _ => True) []) (by kernel_rfl) ?_
  refine kleast_start h4 HO.out.nums hgl bD.lt bbx.lt ad abx a7 a8 (fun _ _ d _ _ h => by cases d <;> exact h) ?_ (by rfl) (by kernel_rfl) (by rfl) (by repeat' (first | assumption | with_reducible exact Below.refl _ _ | with_reducible apply Below.drew | with_reducible apply below_drewN | with_reducible apply below_alloc | with_reducible refine below_set ?_ ?_ _ | (simp only [World.size_alloc, World.heap_drewN]; omega) | (simp; omega)))
  intro E K' zs A' n' c' gy z hY oR hF hgy kz
  have bDz := bD.below kz bD.lt
  have hgz := hg.below kz hgl
  have hyg : ¬ gy = g := by omega
  have hgy2 : ¬ g = gy := by omega
  clear a7 a8 ad abx bbx
  rcases hF with ⟨rfl, rfl, hF⟩ | ⟨hE, hF⟩
  · have hR2 := HR.out
    rw [hF] at hR2
    subst hR2
    clear hF HR
    go_wp2_with fail
    refine (must_ok _).mono ?_
    rintro e w1 ⟨rfl, rfl⟩
    have ad := bDz.at_ (i := 0) (u := .pointer (some ⟨g, 0, none⟩)) rfl
    have y0 := hY.at_ (i := 0) (u := .int .i64 3) rfl
    have y1 := hY.at_ (i := 1) (u := .slice A' n' c') rfl
    have a7 := hgz.at_ (i := 7) (u := .int .i64 3) rfl
    have f7 := hgz.free 7
    have a8 := hgz.at_ (i := 8) (u := .slice An nn cn) rfl
    have f8 := hgz.free 8
    go_wp2_with fail
    have bS : Blk ((w1.setCell ⟨g, 7, none⟩ (.int .i64 3)).setCell ⟨g, 8, none⟩ (.slice A' n' c')) g DT #[.int .i64 3, .int .i64 s.lost, .slice Ac nc cc, .slice Ar nr cr, .int .i64 3, .int .i64 s.seen, .slice Ai ni ci, .int .i64 3, .slice A' n' c'] := by
      have t := ((hgz).set 7 (.int .i64 3)).set 8 (.slice A' n' c')
      simpa using t
    have gS : w1.grownBy ((w1.setCell ⟨g, 7, none⟩ (.int .i64 3)).setCell ⟨g, 8, none⟩ (.slice A' n' c')) (some g) := gtrans (gset _ _ _ _) (gset _ _ _ _)
    clear a7 f7 a8 f8 y0 y1 ad
    have kb : Below b w ((w1.setCell ⟨g, 7, none⟩ (.int .i64 3)).setCell ⟨g, 8, none⟩ (.slice A' n' c')) := (kz.mono (by omega)).grown gS (by have := kz.size; omega) (fun j hj => by injection hj with hj; omega)
    generalize ((w1.setCell ⟨g, 7, none⟩ (.int .i64 3)).setCell ⟨g, 8, none⟩ (.slice A' n' c')) = wS at bS gS kb ⊢
    have oI := Off.of oR hgl
    have hbS : b ≤ wS.heap.size := by have := kb.size; omega
    obtain ⟨_, _, hfl, _, hfd⟩ := botErr_ok rfl HN.out.nums
    dsimp only at hfl hfd
    have hln : n' ≤ 1000 := by have h6 := oR.sl.ilen; omega
    refine (told_any (HL.out.below kb) hbS (oR.sl.beside oI gS) (by omega) (fun z hz => by have := hfd z hz; unfold I64; omega)).mono ?_
    rintro e w2 ⟨rfl, b2⟩
    go_wp2_with fail
    go_ret
    exact ⟨gtrans (gtrans (gbelow kz _) gS) (gbelow b2 _), (DeskAt.mk' gS bS (h1.on kz) (o1.on kz) (h2.on kz) (o2.on kz) (h3.on kz) (o3.on kz) oR.sl oI).on b2, .inl ⟨rfl, rfl⟩⟩
  · have hR2 := HR.out
    rw [hF] at hR2
    subst hR2
    clear hF HR
    go_wp2_with fail
    refine (must_bad hE _).mono ?_
    rintro e w1 ⟨rfl, rfl⟩
    exact ⟨rfl, gbelow kz _, (show DeskAt w g s from ⟨Ac, nc, cc, Ar, nr, cr, Ai, ni, ci, An, nn, cn, hg, ⟨h1, o1⟩, ⟨h2, o2⟩, ⟨h3, o3⟩, ⟨h4, o4⟩⟩).on kz, .inr ⟨hE, rfl⟩⟩
end
end Go.Proofs.YtjpbjghdplbdcaaGreatDoor
end
