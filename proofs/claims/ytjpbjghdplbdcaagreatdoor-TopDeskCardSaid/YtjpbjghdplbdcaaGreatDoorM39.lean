/- Proves the parts of the claim that its last text joins: DispK. Conditions: those that each theorem names. -/
import Derived.Test.YtjpbjghdplbdcaaGreatDoorM21
import Derived.Test.YtjpbjghdplbdcaaGreatDoorM23
import Derived.Test.YtjpbjghdplbdcaaGreatDoorM26
import Derived.Test.YtjpbjghdplbdcaaGreatDoorM27
import Derived.Test.YtjpbjghdplbdcaaGreatDoorM31
import Derived.Test.YtjpbjghdplbdcaaGreatDoorM32
import Derived.Test.YtjpbjghdplbdcaaGreatDoorM37
import Derived.Test.YtjpbjghdplbdcaaGreatDoorM38
section
namespace Go.Proofs.YtjpbjghdplbdcaaGreatDoor
open Go.RowKit Go.Shelf
section
variable {b : Nat} {w : World} {g gw k : Nat} {xs : List (List UInt8)}
set_option maxRecDepth 100000 in
set_option maxHeartbeats 3200000 in
theorem kp_pond (hL : LibW b w) (hb : b ≤ gw) (h : WordsAt w gw xs k) (hs : ShortW xs) (hk : k ≤ xs.length) {x0 : Nat} (h0 : numAt xs k = some x0) {x1 : Nat} (h1 : numAt xs (k + 1) = some x1) :
    Calls Tryz.prog 126 #[.pointer (some ⟨g, 0, none⟩), .string ⟨#[112, 111, 110, 100]⟩, .pointer (some ⟨gw, 0, none⟩)] w fun e w' => Disp b g gw xs w (some (k + 2, fun s => pondS s x0 x1)) e w' := by
  have hmf : ∀ fn first cap w, (Instr.makeFunc fn first cap).run Tryz.prog w = .ok (.func fn first cap) w := fun _ _ _ _ => rfl
  have hg := h.lt
  have IX0 := hide (numAt_i64 h0)
  have IX1 := hide (numAt_i64 h1)
  have C0 := hide (fun w' (hw : LibW b w') (h : WordsAt w' gw xs (k)) => num_y hw hb h hs h0)
  have C1 := hide (fun w' (hw : LibW b w') (h : WordsAt w' gw xs (k + 1)) => num_y hw hb h hs h1)
  have HL := hide hL
  clear hs hL hk h0 h1
  go_enter Tryz.func126, Tryz.ntmps126
  go_wp2_with fail
  have bD := Blk.new w 39 #[.pointer (some ⟨g, 0, none⟩)]
  have b0 := below_alloc (Below.refl w.heap.size w) (.cells #[.pointer (some ⟨g, 0, none⟩)] 39)
  have c0 : w.heap.size < (w.alloc (.cells #[.pointer (some ⟨g, 0, none⟩)] 39)).heap.size := by simp
  generalize w.alloc (.cells #[.pointer (some ⟨g, 0, none⟩)] 39) = w0 at bD b0 c0 ⊢
  have l0 : LibW b w0 := HL.out.below (b0.mono (by omega))
  have k0 := h.below b0
  have G0 := hide (gbelow b0 (some gw))
  have z0 : gw < w0.heap.size := by have := b0.size; omega
  have D0 := bD
  refine (C0.out _ l0 k0).mono ?_
  rintro e w1 ⟨rfl, k1, g1⟩
  have D1 := D0.kept g1 (by omega)
  have l1 : LibW b w1 := l0.below ((gbel g1 (Nat.le_of_lt z0)).mono hb)
  have G1 := hide (gtrans G0.out g1)
  have z1 : gw < w1.heap.size := by have := g1.size; omega
  clear g1 C0 k0 l0
  go_wp2_with fail
  refine (C1.out _ l1 k1).mono ?_
  rintro e w2 ⟨rfl, k2, g2⟩
  have D2 := D1.kept g2 (by omega)
  have l2 : LibW b w2 := l1.below ((gbel g2 (Nat.le_of_lt z1)).mono hb)
  have G2 := hide (gtrans G1.out g2)
  have z2 : gw < w2.heap.size := by have := g2.size; omega
  clear g2 C1 k1 l1
  go_wp2_with fail
  have B0 : Blk ((w2.alloc (.cells #[.int .i64 x0] 3)).alloc (.cells #[.int .i64 x1] 3)) w2.heap.size 3 #[.int .i64 x0] := by
    have t := (Blk.new w2 3 #[.int .i64 x0]).alloc (.cells #[.int .i64 x1] 3)
    simpa using t
  have B1 : Blk ((w2.alloc (.cells #[.int .i64 x0] 3)).alloc (.cells #[.int .i64 x1] 3)) (w2.heap.size + 1) 3 #[.int .i64 x1] := by
    have t := Blk.new (w2.alloc (.cells #[.int .i64 x0] 3)) 3 #[.int .i64 x1]
    simpa using t
  have bF : Below w2.heap.size w2 ((w2.alloc (.cells #[.int .i64 x0] 3)).alloc (.cells #[.int .i64 x1] 3)) := below_alloc (below_alloc (Below.refl w2.heap.size w2) (.cells #[.int .i64 x0] 3)) (.cells #[.int .i64 x1] 3)
  generalize hwf : ((w2.alloc (.cells #[.int .i64 x0] 3)).alloc (.cells #[.int .i64 x1] 3)) = wf at B0 B1 bF ⊢
  clear hwf
  go_ret
  exact ⟨gtrans G2.out (gbelow bF _), 186, _, rfl, k2.below bF, enters_of Tryz.func186 rfl rfl, fun w' s hw hL' hbg hD hO => keep1_any hL' hbg hD hO IX0.out ((D2.below bF D2.lt).below hw (D2.below bF D2.lt).lt) (B0.below hw B0.lt) (B1.below hw B1.lt)⟩
set_option maxRecDepth 100000 in
set_option maxHeartbeats 3200000 in
theorem kp_pond_n0 (hL : LibW b w) (hb : b ≤ gw) (h : WordsAt w gw xs k) (hs : ShortW xs) (hk : k ≤ xs.length) (h0 : numAt xs k = none) :
    Calls Tryz.prog 126 #[.pointer (some ⟨g, 0, none⟩), .string ⟨#[112, 111, 110, 100]⟩, .pointer (some ⟨gw, 0, none⟩)] w fun e w' => Disp b g gw xs w (none) e w' := by
  have hmf : ∀ fn first cap w, (Instr.makeFunc fn first cap).run Tryz.prog w = .ok (.func fn first cap) w := fun _ _ _ _ => rfl
  have hg := h.lt
  have C0 := hide (fun w' (hw : LibW b w') (h : WordsAt w' gw xs (k)) => num_n hw hb h hs (by exact hk) h0)
  have HL := hide hL
  clear hs hL hk h0
  go_enter Tryz.func126, Tryz.ntmps126
  go_wp2_with fail
  have bD := Blk.new w 39 #[.pointer (some ⟨g, 0, none⟩)]
  have b0 := below_alloc (Below.refl w.heap.size w) (.cells #[.pointer (some ⟨g, 0, none⟩)] 39)
  have c0 : w.heap.size < (w.alloc (.cells #[.pointer (some ⟨g, 0, none⟩)] 39)).heap.size := by simp
  generalize w.alloc (.cells #[.pointer (some ⟨g, 0, none⟩)] 39) = w0 at bD b0 c0 ⊢
  have l0 : LibW b w0 := HL.out.below (b0.mono (by omega))
  have k0 := h.below b0
  have G0 := hide (gbelow b0 (some gw))
  have z0 : gw < w0.heap.size := by have := b0.size; omega
  have D0 := bD
  refine (C0.out _ l0 k0).mono ?_
  rintro e w1 ⟨rfl, g1⟩
  exact ⟨rfl, gtrans G0.out g1, rfl⟩
set_option maxRecDepth 100000 in
set_option maxHeartbeats 3200000 in
theorem kp_pond_n1 (hL : LibW b w) (hb : b ≤ gw) (h : WordsAt w gw xs k) (hs : ShortW xs) (hk : k ≤ xs.length) {x0 : Nat} (h0 : numAt xs k = some x0) (h1 : numAt xs (k + 1) = none) :
    Calls Tryz.prog 126 #[.pointer (some ⟨g, 0, none⟩), .string ⟨#[112, 111, 110, 100]⟩, .pointer (some ⟨gw, 0, none⟩)] w fun e w' => Disp b g gw xs w (none) e w' := by
  have hmf : ∀ fn first cap w, (Instr.makeFunc fn first cap).run Tryz.prog w = .ok (.func fn first cap) w := fun _ _ _ _ => rfl
  have hg := h.lt
  have IX0 := hide (numAt_i64 h0)
  have C0 := hide (fun w' (hw : LibW b w') (h : WordsAt w' gw xs (k)) => num_y hw hb h hs h0)
  have C1 := hide (fun w' (hw : LibW b w') (h : WordsAt w' gw xs (k + 1)) => num_n hw hb h hs (by exact numAt_le h0) h1)
  have HL := hide hL
  clear hs hL hk h0 h1
  go_enter Tryz.func126, Tryz.ntmps126
  go_wp2_with fail
  have bD := Blk.new w 39 #[.pointer (some ⟨g, 0, none⟩)]
  have b0 := below_alloc (Below.refl w.heap.size w) (.cells #[.pointer (some ⟨g, 0, none⟩)] 39)
  have c0 : w.heap.size < (w.alloc (.cells #[.pointer (some ⟨g, 0, none⟩)] 39)).heap.size := by simp
  generalize w.alloc (.cells #[.pointer (some ⟨g, 0, none⟩)] 39) = w0 at bD b0 c0 ⊢
  have l0 : LibW b w0 := HL.out.below (b0.mono (by omega))
  have k0 := h.below b0
  have G0 := hide (gbelow b0 (some gw))
  have z0 : gw < w0.heap.size := by have := b0.size; omega
  have D0 := bD
  refine (C0.out _ l0 k0).mono ?_
  rintro e w1 ⟨rfl, k1, g1⟩
  have D1 := D0.kept g1 (by omega)
  have l1 : LibW b w1 := l0.below ((gbel g1 (Nat.le_of_lt z0)).mono hb)
  have G1 := hide (gtrans G0.out g1)
  have z1 : gw < w1.heap.size := by have := g1.size; omega
  clear g1 C0 k0 l0
  go_wp2_with fail
  refine (C1.out _ l1 k1).mono ?_
  rintro e w2 ⟨rfl, g2⟩
  exact ⟨rfl, gtrans G1.out g2, rfl⟩
theorem kp_pond_is (hL : LibW b w) (hb : b ≤ gw) (h : WordsAt w gw xs k) (hs : ShortW xs) (hk : k ≤ xs.length) :
    Calls Tryz.prog 126 #[.pointer (some ⟨g, 0, none⟩), .string ⟨#[112, 111, 110, 100]⟩, .pointer (some ⟨gw, 0, none⟩)] w fun e w' => Disp b g gw xs w (pondD xs k) e w' := by
  unfold pondD
  cases h0 : numAt xs k with
  | none => exact kp_pond_n0 hL hb h hs hk h0
  | some x0 =>
    cases h1 : numAt xs (k + 1) with
    | none => exact kp_pond_n1 hL hb h hs hk h0 h1
    | some x1 =>
      exact kp_pond hL hb h hs hk h0 h1
set_option maxRecDepth 100000 in
set_option maxHeartbeats 3200000 in
theorem kp_least (hL : LibW b w) (hb : b ≤ gw) (h : WordsAt w gw xs k) (hs : ShortW xs) (hk : k ≤ xs.length) {x0 : Nat} (h0 : numAt xs k = some x0) :
    Calls Tryz.prog 126 #[.pointer (some ⟨g, 0, none⟩), .string ⟨#[108, 101, 97, 115, 116]⟩, .pointer (some ⟨gw, 0, none⟩)] w fun e w' => Disp b g gw xs w (some (k + 1, fun s => leastS s x0)) e w' := by
  have hmf : ∀ fn first cap w, (Instr.makeFunc fn first cap).run Tryz.prog w = .ok (.func fn first cap) w := fun _ _ _ _ => rfl
  have hg := h.lt
  have IX0 := hide (numAt_i64 h0)
  have C0 := hide (fun w' (hw : LibW b w') (h : WordsAt w' gw xs (k)) => num_y hw hb h hs h0)
  have HL := hide hL
  clear hs hL hk h0
  go_enter Tryz.func126, Tryz.ntmps126
  go_wp2_with fail
  have bD := Blk.new w 39 #[.pointer (some ⟨g, 0, none⟩)]
  have b0 := below_alloc (Below.refl w.heap.size w) (.cells #[.pointer (some ⟨g, 0, none⟩)] 39)
  have c0 : w.heap.size < (w.alloc (.cells #[.pointer (some ⟨g, 0, none⟩)] 39)).heap.size := by simp
  generalize w.alloc (.cells #[.pointer (some ⟨g, 0, none⟩)] 39) = w0 at bD b0 c0 ⊢
  have l0 : LibW b w0 := HL.out.below (b0.mono (by omega))
  have k0 := h.below b0
  have G0 := hide (gbelow b0 (some gw))
  have z0 : gw < w0.heap.size := by have := b0.size; omega
  have D0 := bD
  refine (C0.out _ l0 k0).mono ?_
  rintro e w1 ⟨rfl, k1, g1⟩
  have D1 := D0.kept g1 (by omega)
  have l1 : LibW b w1 := l0.below ((gbel g1 (Nat.le_of_lt z0)).mono hb)
  have G1 := hide (gtrans G0.out g1)
  have z1 : gw < w1.heap.size := by have := g1.size; omega
  clear g1 C0 k0 l0
  go_wp2_with fail
  have B0 : Blk (w1.alloc (.cells #[.int .i64 x0] 3)) w1.heap.size 3 #[.int .i64 x0] := by
    have t := Blk.new w1 3 #[.int .i64 x0]
    simpa using t
  have bF : Below w1.heap.size w1 (w1.alloc (.cells #[.int .i64 x0] 3)) := below_alloc (Below.refl w1.heap.size w1) (.cells #[.int .i64 x0] 3)
  generalize hwf : (w1.alloc (.cells #[.int .i64 x0] 3)) = wf at B0 bF ⊢
  clear hwf
  go_ret
  exact ⟨gtrans G1.out (gbelow bF _), 188, _, rfl, k1.below bF, enters_of Tryz.func188 rfl rfl, fun w' s hw hL' hbg hD hO => keep2_any hL' hbg hD hO  ((D1.below bF D1.lt).below hw (D1.below bF D1.lt).lt) (B0.below hw B0.lt)⟩
set_option maxRecDepth 100000 in
set_option maxHeartbeats 3200000 in
theorem kp_least_n0 (hL : LibW b w) (hb : b ≤ gw) (h : WordsAt w gw xs k) (hs : ShortW xs) (hk : k ≤ xs.length) (h0 : numAt xs k = none) :
    Calls Tryz.prog 126 #[.pointer (some ⟨g, 0, none⟩), .string ⟨#[108, 101, 97, 115, 116]⟩, .pointer (some ⟨gw, 0, none⟩)] w fun e w' => Disp b g gw xs w (none) e w' := by
  have hmf : ∀ fn first cap w, (Instr.makeFunc fn first cap).run Tryz.prog w = .ok (.func fn first cap) w := fun _ _ _ _ => rfl
  have hg := h.lt
  have C0 := hide (fun w' (hw : LibW b w') (h : WordsAt w' gw xs (k)) => num_n hw hb h hs (by exact hk) h0)
  have HL := hide hL
  clear hs hL hk h0
  go_enter Tryz.func126, Tryz.ntmps126
  go_wp2_with fail
  have bD := Blk.new w 39 #[.pointer (some ⟨g, 0, none⟩)]
  have b0 := below_alloc (Below.refl w.heap.size w) (.cells #[.pointer (some ⟨g, 0, none⟩)] 39)
  have c0 : w.heap.size < (w.alloc (.cells #[.pointer (some ⟨g, 0, none⟩)] 39)).heap.size := by simp
  generalize w.alloc (.cells #[.pointer (some ⟨g, 0, none⟩)] 39) = w0 at bD b0 c0 ⊢
  have l0 : LibW b w0 := HL.out.below (b0.mono (by omega))
  have k0 := h.below b0
  have G0 := hide (gbelow b0 (some gw))
  have z0 : gw < w0.heap.size := by have := b0.size; omega
  have D0 := bD
  refine (C0.out _ l0 k0).mono ?_
  rintro e w1 ⟨rfl, g1⟩
  exact ⟨rfl, gtrans G0.out g1, rfl⟩
theorem kp_least_is (hL : LibW b w) (hb : b ≤ gw) (h : WordsAt w gw xs k) (hs : ShortW xs) (hk : k ≤ xs.length) :
    Calls Tryz.prog 126 #[.pointer (some ⟨g, 0, none⟩), .string ⟨#[108, 101, 97, 115, 116]⟩, .pointer (some ⟨gw, 0, none⟩)] w fun e w' => Disp b g gw xs w (leastD xs k) e w' := by
  unfold leastD
  cases h0 : numAt xs k with
  | none => exact kp_least_n0 hL hb h hs hk h0
  | some x0 =>
    exact kp_least hL hb h hs hk h0
set_option maxRecDepth 100000 in
set_option maxHeartbeats 3200000 in
theorem kp_many (hL : LibW b w) (hb : b ≤ gw) (h : WordsAt w gw xs k) (hs : ShortW xs) (hk : k ≤ xs.length) :
    Calls Tryz.prog 126 #[.pointer (some ⟨g, 0, none⟩), .string ⟨#[109, 97, 110, 121]⟩, .pointer (some ⟨gw, 0, none⟩)] w fun e w' => Disp b g gw xs w (some (k, fun s => manyS s)) e w' := by
  have hmf : ∀ fn first cap w, (Instr.makeFunc fn first cap).run Tryz.prog w = .ok (.func fn first cap) w := fun _ _ _ _ => rfl
  have hg := h.lt
  have HL := hide hL
  clear hs hL hk
  go_enter Tryz.func126, Tryz.ntmps126
  go_wp2_with fail
  have bD := Blk.new w 39 #[.pointer (some ⟨g, 0, none⟩)]
  have b0 := below_alloc (Below.refl w.heap.size w) (.cells #[.pointer (some ⟨g, 0, none⟩)] 39)
  have c0 : w.heap.size < (w.alloc (.cells #[.pointer (some ⟨g, 0, none⟩)] 39)).heap.size := by simp
  generalize w.alloc (.cells #[.pointer (some ⟨g, 0, none⟩)] 39) = w0 at bD b0 c0 ⊢
  have l0 : LibW b w0 := HL.out.below (b0.mono (by omega))
  have k0 := h.below b0
  have G0 := hide (gbelow b0 (some gw))
  have z0 : gw < w0.heap.size := by have := b0.size; omega
  have D0 := bD
  have bF : Below w0.heap.size w0 w0 := Below.refl w0.heap.size w0
  go_ret
  exact ⟨gtrans G0.out (gbelow bF _), 190, _, rfl, k0.below bF, enters_of Tryz.func190 rfl rfl, fun w' s hw hL' hbg hD hO => keep3_any hL' hbg hD hO  ((D0.below bF D0.lt).below hw (D0.below bF D0.lt).lt) ⟩
theorem kp_many_is (hL : LibW b w) (hb : b ≤ gw) (h : WordsAt w gw xs k) (hs : ShortW xs) (hk : k ≤ xs.length) :
    Calls Tryz.prog 126 #[.pointer (some ⟨g, 0, none⟩), .string ⟨#[109, 97, 110, 121]⟩, .pointer (some ⟨gw, 0, none⟩)] w fun e w' => Disp b g gw xs w (manyD xs k) e w' := by
  unfold manyD
  exact kp_many hL hb h hs hk
set_option maxRecDepth 100000 in
set_option maxHeartbeats 3200000 in
theorem kp_few (hL : LibW b w) (hb : b ≤ gw) (h : WordsAt w gw xs k) (hs : ShortW xs) (hk : k ≤ xs.length) {x0 : Nat} (h0 : numAt xs k = some x0) {x1 : Nat} (h1 : numAt xs (k + 1) = some x1) :
    Calls Tryz.prog 126 #[.pointer (some ⟨g, 0, none⟩), .string ⟨#[102, 101, 119]⟩, .pointer (some ⟨gw, 0, none⟩)] w fun e w' => Disp b g gw xs w (some (k + 2, fun s => fewS s x0 x1)) e w' := by
  have hmf : ∀ fn first cap w, (Instr.makeFunc fn first cap).run Tryz.prog w = .ok (.func fn first cap) w := fun _ _ _ _ => rfl
  have hg := h.lt
  have IX0 := hide (numAt_i64 h0)
  have IX1 := hide (numAt_i64 h1)
  have C0 := hide (fun w' (hw : LibW b w') (h : WordsAt w' gw xs (k)) => num_y hw hb h hs h0)
  have C1 := hide (fun w' (hw : LibW b w') (h : WordsAt w' gw xs (k + 1)) => num_y hw hb h hs h1)
  have HL := hide hL
  clear hs hL hk h0 h1
  go_enter Tryz.func126, Tryz.ntmps126
  go_wp2_with fail
  have bD := Blk.new w 39 #[.pointer (some ⟨g, 0, none⟩)]
  have b0 := below_alloc (Below.refl w.heap.size w) (.cells #[.pointer (some ⟨g, 0, none⟩)] 39)
  have c0 : w.heap.size < (w.alloc (.cells #[.pointer (some ⟨g, 0, none⟩)] 39)).heap.size := by simp
  generalize w.alloc (.cells #[.pointer (some ⟨g, 0, none⟩)] 39) = w0 at bD b0 c0 ⊢
  have l0 : LibW b w0 := HL.out.below (b0.mono (by omega))
  have k0 := h.below b0
  have G0 := hide (gbelow b0 (some gw))
  have z0 : gw < w0.heap.size := by have := b0.size; omega
  have D0 := bD
  refine (C0.out _ l0 k0).mono ?_
  rintro e w1 ⟨rfl, k1, g1⟩
  have D1 := D0.kept g1 (by omega)
  have l1 : LibW b w1 := l0.below ((gbel g1 (Nat.le_of_lt z0)).mono hb)
  have G1 := hide (gtrans G0.out g1)
  have z1 : gw < w1.heap.size := by have := g1.size; omega
  clear g1 C0 k0 l0
  go_wp2_with fail
  refine (C1.out _ l1 k1).mono ?_
  rintro e w2 ⟨rfl, k2, g2⟩
  have D2 := D1.kept g2 (by omega)
  have l2 : LibW b w2 := l1.below ((gbel g2 (Nat.le_of_lt z1)).mono hb)
  have G2 := hide (gtrans G1.out g2)
  have z2 : gw < w2.heap.size := by have := g2.size; omega
  clear g2 C1 k1 l1
  go_wp2_with fail
  have B0 : Blk ((w2.alloc (.cells #[.int .i64 x0] 3)).alloc (.cells #[.int .i64 x1] 3)) w2.heap.size 3 #[.int .i64 x0] := by
    have t := (Blk.new w2 3 #[.int .i64 x0]).alloc (.cells #[.int .i64 x1] 3)
    simpa using t
  have B1 : Blk ((w2.alloc (.cells #[.int .i64 x0] 3)).alloc (.cells #[.int .i64 x1] 3)) (w2.heap.size + 1) 3 #[.int .i64 x1] := by
    have t := Blk.new (w2.alloc (.cells #[.int .i64 x0] 3)) 3 #[.int .i64 x1]
    simpa using t
  have bF : Below w2.heap.size w2 ((w2.alloc (.cells #[.int .i64 x0] 3)).alloc (.cells #[.int .i64 x1] 3)) := below_alloc (below_alloc (Below.refl w2.heap.size w2) (.cells #[.int .i64 x0] 3)) (.cells #[.int .i64 x1] 3)
  generalize hwf : ((w2.alloc (.cells #[.int .i64 x0] 3)).alloc (.cells #[.int .i64 x1] 3)) = wf at B0 B1 bF ⊢
  clear hwf
  go_ret
  exact ⟨gtrans G2.out (gbelow bF _), 192, _, rfl, k2.below bF, enters_of Tryz.func192 rfl rfl, fun w' s hw hL' hbg hD hO => keep4_any hL' hbg hD hO IX0.out ((D2.below bF D2.lt).below hw (D2.below bF D2.lt).lt) (B0.below hw B0.lt) (B1.below hw B1.lt)⟩
set_option maxRecDepth 100000 in
set_option maxHeartbeats 3200000 in
theorem kp_few_n0 (hL : LibW b w) (hb : b ≤ gw) (h : WordsAt w gw xs k) (hs : ShortW xs) (hk : k ≤ xs.length) (h0 : numAt xs k = none) :
    Calls Tryz.prog 126 #[.pointer (some ⟨g, 0, none⟩), .string ⟨#[102, 101, 119]⟩, .pointer (some ⟨gw, 0, none⟩)] w fun e w' => Disp b g gw xs w (none) e w' := by
  have hmf : ∀ fn first cap w, (Instr.makeFunc fn first cap).run Tryz.prog w = .ok (.func fn first cap) w := fun _ _ _ _ => rfl
  have hg := h.lt
  have C0 := hide (fun w' (hw : LibW b w') (h : WordsAt w' gw xs (k)) => num_n hw hb h hs (by exact hk) h0)
  have HL := hide hL
  clear hs hL hk h0
  go_enter Tryz.func126, Tryz.ntmps126
  go_wp2_with fail
  have bD := Blk.new w 39 #[.pointer (some ⟨g, 0, none⟩)]
  have b0 := below_alloc (Below.refl w.heap.size w) (.cells #[.pointer (some ⟨g, 0, none⟩)] 39)
  have c0 : w.heap.size < (w.alloc (.cells #[.pointer (some ⟨g, 0, none⟩)] 39)).heap.size := by simp
  generalize w.alloc (.cells #[.pointer (some ⟨g, 0, none⟩)] 39) = w0 at bD b0 c0 ⊢
  have l0 : LibW b w0 := HL.out.below (b0.mono (by omega))
  have k0 := h.below b0
  have G0 := hide (gbelow b0 (some gw))
  have z0 : gw < w0.heap.size := by have := b0.size; omega
  have D0 := bD
  refine (C0.out _ l0 k0).mono ?_
  rintro e w1 ⟨rfl, g1⟩
  exact ⟨rfl, gtrans G0.out g1, rfl⟩
set_option maxRecDepth 100000 in
set_option maxHeartbeats 3200000 in
theorem kp_few_n1 (hL : LibW b w) (hb : b ≤ gw) (h : WordsAt w gw xs k) (hs : ShortW xs) (hk : k ≤ xs.length) {x0 : Nat} (h0 : numAt xs k = some x0) (h1 : numAt xs (k + 1) = none) :
    Calls Tryz.prog 126 #[.pointer (some ⟨g, 0, none⟩), .string ⟨#[102, 101, 119]⟩, .pointer (some ⟨gw, 0, none⟩)] w fun e w' => Disp b g gw xs w (none) e w' := by
  have hmf : ∀ fn first cap w, (Instr.makeFunc fn first cap).run Tryz.prog w = .ok (.func fn first cap) w := fun _ _ _ _ => rfl
  have hg := h.lt
  have IX0 := hide (numAt_i64 h0)
  have C0 := hide (fun w' (hw : LibW b w') (h : WordsAt w' gw xs (k)) => num_y hw hb h hs h0)
  have C1 := hide (fun w' (hw : LibW b w') (h : WordsAt w' gw xs (k + 1)) => num_n hw hb h hs (by exact numAt_le h0) h1)
  have HL := hide hL
  clear hs hL hk h0 h1
  go_enter Tryz.func126, Tryz.ntmps126
  go_wp2_with fail
  have bD := Blk.new w 39 #[.pointer (some ⟨g, 0, none⟩)]
  have b0 := below_alloc (Below.refl w.heap.size w) (.cells #[.pointer (some ⟨g, 0, none⟩)] 39)
  have c0 : w.heap.size < (w.alloc (.cells #[.pointer (some ⟨g, 0, none⟩)] 39)).heap.size := by simp
  generalize w.alloc (.cells #[.pointer (some ⟨g, 0, none⟩)] 39) = w0 at bD b0 c0 ⊢
  have l0 : LibW b w0 := HL.out.below (b0.mono (by omega))
  have k0 := h.below b0
  have G0 := hide (gbelow b0 (some gw))
  have z0 : gw < w0.heap.size := by have := b0.size; omega
  have D0 := bD
  refine (C0.out _ l0 k0).mono ?_
  rintro e w1 ⟨rfl, k1, g1⟩
  have D1 := D0.kept g1 (by omega)
  have l1 : LibW b w1 := l0.below ((gbel g1 (Nat.le_of_lt z0)).mono hb)
  have G1 := hide (gtrans G0.out g1)
  have z1 : gw < w1.heap.size := by have := g1.size; omega
  clear g1 C0 k0 l0
  go_wp2_with fail
  refine (C1.out _ l1 k1).mono ?_
  rintro e w2 ⟨rfl, g2⟩
  exact ⟨rfl, gtrans G1.out g2, rfl⟩
theorem kp_few_is (hL : LibW b w) (hb : b ≤ gw) (h : WordsAt w gw xs k) (hs : ShortW xs) (hk : k ≤ xs.length) :
    Calls Tryz.prog 126 #[.pointer (some ⟨g, 0, none⟩), .string ⟨#[102, 101, 119]⟩, .pointer (some ⟨gw, 0, none⟩)] w fun e w' => Disp b g gw xs w (fewD xs k) e w' := by
  unfold fewD
  cases h0 : numAt xs k with
  | none => exact kp_few_n0 hL hb h hs hk h0
  | some x0 =>
    cases h1 : numAt xs (k + 1) with
    | none => exact kp_few_n1 hL hb h hs hk h0 h1
    | some x1 =>
      exact kp_few hL hb h hs hk h0 h1
set_option maxRecDepth 100000 in
set_option maxHeartbeats 3200000 in
theorem kp_ask (hL : LibW b w) (hb : b ≤ gw) (h : WordsAt w gw xs k) (hs : ShortW xs) (hk : k ≤ xs.length) {x0 : Nat} (h0 : numAt xs k = some x0) :
    Calls Tryz.prog 126 #[.pointer (some ⟨g, 0, none⟩), .string ⟨#[97, 115, 107]⟩, .pointer (some ⟨gw, 0, none⟩)] w fun e w' => Disp b g gw xs w (some (k + 1, fun s => askS s x0)) e w' := by
  have hmf : ∀ fn first cap w, (Instr.makeFunc fn first cap).run Tryz.prog w = .ok (.func fn first cap) w := fun _ _ _ _ => rfl
  have hg := h.lt
  have IX0 := hide (numAt_i64 h0)
  have C0 := hide (fun w' (hw : LibW b w') (h : WordsAt w' gw xs (k)) => num_y hw hb h hs h0)
  have HL := hide hL
  clear hs hL hk h0
  go_enter Tryz.func126, Tryz.ntmps126
  go_wp2_with fail
  have bD := Blk.new w 39 #[.pointer (some ⟨g, 0, none⟩)]
  have b0 := below_alloc (Below.refl w.heap.size w) (.cells #[.pointer (some ⟨g, 0, none⟩)] 39)
  have c0 : w.heap.size < (w.alloc (.cells #[.pointer (some ⟨g, 0, none⟩)] 39)).heap.size := by simp
  generalize w.alloc (.cells #[.pointer (some ⟨g, 0, none⟩)] 39) = w0 at bD b0 c0 ⊢
  have l0 : LibW b w0 := HL.out.below (b0.mono (by omega))
  have k0 := h.below b0
  have G0 := hide (gbelow b0 (some gw))
  have z0 : gw < w0.heap.size := by have := b0.size; omega
  have D0 := bD
  refine (C0.out _ l0 k0).mono ?_
  rintro e w1 ⟨rfl, k1, g1⟩
  have D1 := D0.kept g1 (by omega)
  have l1 : LibW b w1 := l0.below ((gbel g1 (Nat.le_of_lt z0)).mono hb)
  have G1 := hide (gtrans G0.out g1)
  have z1 : gw < w1.heap.size := by have := g1.size; omega
  clear g1 C0 k0 l0
  go_wp2_with fail
  have B0 : Blk (w1.alloc (.cells #[.int .i64 x0] 3)) w1.heap.size 3 #[.int .i64 x0] := by
    have t := Blk.new w1 3 #[.int .i64 x0]
    simpa using t
  have bF : Below w1.heap.size w1 (w1.alloc (.cells #[.int .i64 x0] 3)) := below_alloc (Below.refl w1.heap.size w1) (.cells #[.int .i64 x0] 3)
  generalize hwf : (w1.alloc (.cells #[.int .i64 x0] 3)) = wf at B0 bF ⊢
  clear hwf
  go_ret
  exact ⟨gtrans G1.out (gbelow bF _), 194, _, rfl, k1.below bF, enters_of Tryz.func194 rfl rfl, fun w' s hw hL' hbg hD hO => keep5_any hL' hbg hD hO  ((D1.below bF D1.lt).below hw (D1.below bF D1.lt).lt) (B0.below hw B0.lt)⟩
set_option maxRecDepth 100000 in
set_option maxHeartbeats 3200000 in
theorem kp_ask_n0 (hL : LibW b w) (hb : b ≤ gw) (h : WordsAt w gw xs k) (hs : ShortW xs) (hk : k ≤ xs.length) (h0 : numAt xs k = none) :
    Calls Tryz.prog 126 #[.pointer (some ⟨g, 0, none⟩), .string ⟨#[97, 115, 107]⟩, .pointer (some ⟨gw, 0, none⟩)] w fun e w' => Disp b g gw xs w (none) e w' := by
  have hmf : ∀ fn first cap w, (Instr.makeFunc fn first cap).run Tryz.prog w = .ok (.func fn first cap) w := fun _ _ _ _ => rfl
  have hg := h.lt
  have C0 := hide (fun w' (hw : LibW b w') (h : WordsAt w' gw xs (k)) => num_n hw hb h hs (by exact hk) h0)
  have HL := hide hL
  clear hs hL hk h0
  go_enter Tryz.func126, Tryz.ntmps126
  go_wp2_with fail
  have bD := Blk.new w 39 #[.pointer (some ⟨g, 0, none⟩)]
  have b0 := below_alloc (Below.refl w.heap.size w) (.cells #[.pointer (some ⟨g, 0, none⟩)] 39)
  have c0 : w.heap.size < (w.alloc (.cells #[.pointer (some ⟨g, 0, none⟩)] 39)).heap.size := by simp
  generalize w.alloc (.cells #[.pointer (some ⟨g, 0, none⟩)] 39) = w0 at bD b0 c0 ⊢
  have l0 : LibW b w0 := HL.out.below (b0.mono (by omega))
  have k0 := h.below b0
  have G0 := hide (gbelow b0 (some gw))
  have z0 : gw < w0.heap.size := by have := b0.size; omega
  have D0 := bD
  refine (C0.out _ l0 k0).mono ?_
  rintro e w1 ⟨rfl, g1⟩
  exact ⟨rfl, gtrans G0.out g1, rfl⟩
theorem kp_ask_is (hL : LibW b w) (hb : b ≤ gw) (h : WordsAt w gw xs k) (hs : ShortW xs) (hk : k ≤ xs.length) :
    Calls Tryz.prog 126 #[.pointer (some ⟨g, 0, none⟩), .string ⟨#[97, 115, 107]⟩, .pointer (some ⟨gw, 0, none⟩)] w fun e w' => Disp b g gw xs w (askD xs k) e w' := by
  unfold askD
  cases h0 : numAt xs k with
  | none => exact kp_ask_n0 hL hb h hs hk h0
  | some x0 =>
    exact kp_ask hL hb h hs hk h0
set_option maxRecDepth 100000 in
set_option maxHeartbeats 3200000 in
theorem kp_rule (hL : LibW b w) (hb : b ≤ gw) (h : WordsAt w gw xs k) (hs : ShortW xs) (hk : k ≤ xs.length) {x0 : List UInt8} (h0 : wordAt xs k = some x0) {x1 : Nat} (h1 : numAt xs (k + 1) = some x1) {x2 : Nat} (h2 : numAt xs (k + 2) = some x2) :
    Calls Tryz.prog 126 #[.pointer (some ⟨g, 0, none⟩), .string ⟨#[114, 117, 108, 101]⟩, .pointer (some ⟨gw, 0, none⟩)] w fun e w' => Disp b g gw xs w (some (k + 3, fun s => ruleS s (tx x0) x1 x2)) e w' := by
  have hmf : ∀ fn first cap w, (Instr.makeFunc fn first cap).run Tryz.prog w = .ok (.func fn first cap) w := fun _ _ _ _ => rfl
  have hg := h.lt
  have HS0 := hide (hs x0 (List.mem_of_getElem? (show xs[k]? = some x0 from h0)))
  have IX1 := hide (numAt_i64 h1)
  have IX2 := hide (numAt_i64 h2)
  have C0 := hide (fun w' (hw : LibW b w') (h : WordsAt w' gw xs (k)) => next_ok h h0)
  have C1 := hide (fun w' (hw : LibW b w') (h : WordsAt w' gw xs (k + 1)) => num_y hw hb h hs h1)
  have C2 := hide (fun w' (hw : LibW b w') (h : WordsAt w' gw xs (k + 2)) => num_y hw hb h hs h2)
  have HL := hide hL
  clear hs hL hk h0 h1 h2
  go_enter Tryz.func126, Tryz.ntmps126
  go_wp2_with fail
  have bD := Blk.new w 39 #[.pointer (some ⟨g, 0, none⟩)]
  have b0 := below_alloc (Below.refl w.heap.size w) (.cells #[.pointer (some ⟨g, 0, none⟩)] 39)
  have c0 : w.heap.size < (w.alloc (.cells #[.pointer (some ⟨g, 0, none⟩)] 39)).heap.size := by simp
  generalize w.alloc (.cells #[.pointer (some ⟨g, 0, none⟩)] 39) = w0 at bD b0 c0 ⊢
  have l0 : LibW b w0 := HL.out.below (b0.mono (by omega))
  have k0 := h.below b0
  have G0 := hide (gbelow b0 (some gw))
  have z0 : gw < w0.heap.size := by have := b0.size; omega
  have D0 := bD
  refine (C0.out _ l0 k0).mono ?_
  rintro e w1 ⟨rfl, k1, g1⟩
  have D1 := D0.kept g1 (by omega)
  have l1 : LibW b w1 := l0.below ((gbel g1 (Nat.le_of_lt z0)).mono hb)
  have G1 := hide (gtrans G0.out g1)
  have z1 : gw < w1.heap.size := by have := g1.size; omega
  clear g1 C0 k0 l0
  go_wp2_with fail
  refine (C1.out _ l1 k1).mono ?_
  rintro e w2 ⟨rfl, k2, g2⟩
  have D2 := D1.kept g2 (by omega)
  have l2 : LibW b w2 := l1.below ((gbel g2 (Nat.le_of_lt z1)).mono hb)
  have G2 := hide (gtrans G1.out g2)
  have z2 : gw < w2.heap.size := by have := g2.size; omega
  clear g2 C1 k1 l1
  go_wp2_with fail
  refine (C2.out _ l2 k2).mono ?_
  rintro e w3 ⟨rfl, k3, g3⟩
  have D3 := D2.kept g3 (by omega)
  have l3 : LibW b w3 := l2.below ((gbel g3 (Nat.le_of_lt z2)).mono hb)
  have G3 := hide (gtrans G2.out g3)
  have z3 : gw < w3.heap.size := by have := g3.size; omega
  clear g3 C2 k2 l2
  go_wp2_with fail
  have B0 : Blk (w3.alloc (.cells #[.string (tx x0), .int .i64 x1, .int .i64 x2] 132)) w3.heap.size 132 #[.string (tx x0), .int .i64 x1, .int .i64 x2] := by
    have t := Blk.new w3 132 #[.string (tx x0), .int .i64 x1, .int .i64 x2]
    simpa using t
  have bF : Below w3.heap.size w3 (w3.alloc (.cells #[.string (tx x0), .int .i64 x1, .int .i64 x2] 132)) := below_alloc (Below.refl w3.heap.size w3) (.cells #[.string (tx x0), .int .i64 x1, .int .i64 x2] 132)
  generalize hwf : (w3.alloc (.cells #[.string (tx x0), .int .i64 x1, .int .i64 x2] 132)) = wf at B0 bF ⊢
  clear hwf
  go_ret
  exact ⟨gtrans G3.out (gbelow bF _), 196, _, rfl, k3.below bF, enters_of Tryz.func196 rfl rfl, fun w' s hw hL' hbg hD hO => keep6_any hL' hbg hD hO (by have := HS0.out; simp only [tx_size]; omega) ((D3.below bF D3.lt).below hw (D3.below bF D3.lt).lt) (B0.below hw B0.lt)⟩
set_option maxRecDepth 100000 in
set_option maxHeartbeats 3200000 in
theorem kp_rule_n0 (hL : LibW b w) (hb : b ≤ gw) (h : WordsAt w gw xs k) (hs : ShortW xs) (hk : k ≤ xs.length) (h0 : wordAt xs k = none) :
    Calls Tryz.prog 126 #[.pointer (some ⟨g, 0, none⟩), .string ⟨#[114, 117, 108, 101]⟩, .pointer (some ⟨gw, 0, none⟩)] w fun e w' => Disp b g gw xs w (none) e w' := by
  have hmf : ∀ fn first cap w, (Instr.makeFunc fn first cap).run Tryz.prog w = .ok (.func fn first cap) w := fun _ _ _ _ => rfl
  have hg := h.lt
  have C0 := hide (fun w' (hw : LibW b w') (h : WordsAt w' gw xs (k)) => word_n h (by exact hk) h0)
  have HL := hide hL
  clear hs hL hk h0
  go_enter Tryz.func126, Tryz.ntmps126
  go_wp2_with fail
  have bD := Blk.new w 39 #[.pointer (some ⟨g, 0, none⟩)]
  have b0 := below_alloc (Below.refl w.heap.size w) (.cells #[.pointer (some ⟨g, 0, none⟩)] 39)
  have c0 : w.heap.size < (w.alloc (.cells #[.pointer (some ⟨g, 0, none⟩)] 39)).heap.size := by simp
  generalize w.alloc (.cells #[.pointer (some ⟨g, 0, none⟩)] 39) = w0 at bD b0 c0 ⊢
  have l0 : LibW b w0 := HL.out.below (b0.mono (by omega))
  have k0 := h.below b0
  have G0 := hide (gbelow b0 (some gw))
  have z0 : gw < w0.heap.size := by have := b0.size; omega
  have D0 := bD
  refine (C0.out _ l0 k0).mono ?_
  rintro e w1 ⟨rfl, g1⟩
  exact ⟨rfl, gtrans G0.out g1, rfl⟩
set_option maxRecDepth 100000 in
set_option maxHeartbeats 3200000 in
theorem kp_rule_n1 (hL : LibW b w) (hb : b ≤ gw) (h : WordsAt w gw xs k) (hs : ShortW xs) (hk : k ≤ xs.length) {x0 : List UInt8} (h0 : wordAt xs k = some x0) (h1 : numAt xs (k + 1) = none) :
    Calls Tryz.prog 126 #[.pointer (some ⟨g, 0, none⟩), .string ⟨#[114, 117, 108, 101]⟩, .pointer (some ⟨gw, 0, none⟩)] w fun e w' => Disp b g gw xs w (none) e w' := by
  have hmf : ∀ fn first cap w, (Instr.makeFunc fn first cap).run Tryz.prog w = .ok (.func fn first cap) w := fun _ _ _ _ => rfl
  have hg := h.lt
  have HS0 := hide (hs x0 (List.mem_of_getElem? (show xs[k]? = some x0 from h0)))
  have C0 := hide (fun w' (hw : LibW b w') (h : WordsAt w' gw xs (k)) => next_ok h h0)
  have C1 := hide (fun w' (hw : LibW b w') (h : WordsAt w' gw xs (k + 1)) => num_n hw hb h hs (by exact wordAt_le h0) h1)
  have HL := hide hL
  clear hs hL hk h0 h1
  go_enter Tryz.func126, Tryz.ntmps126
  go_wp2_with fail
  have bD := Blk.new w 39 #[.pointer (some ⟨g, 0, none⟩)]
  have b0 := below_alloc (Below.refl w.heap.size w) (.cells #[.pointer (some ⟨g, 0, none⟩)] 39)
  have c0 : w.heap.size < (w.alloc (.cells #[.pointer (some ⟨g, 0, none⟩)] 39)).heap.size := by simp
  generalize w.alloc (.cells #[.pointer (some ⟨g, 0, none⟩)] 39) = w0 at bD b0 c0 ⊢
  have l0 : LibW b w0 := HL.out.below (b0.mono (by omega))
  have k0 := h.below b0
  have G0 := hide (gbelow b0 (some gw))
  have z0 : gw < w0.heap.size := by have := b0.size; omega
  have D0 := bD
  refine (C0.out _ l0 k0).mono ?_
  rintro e w1 ⟨rfl, k1, g1⟩
  have D1 := D0.kept g1 (by omega)
  have l1 : LibW b w1 := l0.below ((gbel g1 (Nat.le_of_lt z0)).mono hb)
  have G1 := hide (gtrans G0.out g1)
  have z1 : gw < w1.heap.size := by have := g1.size; omega
  clear g1 C0 k0 l0
  go_wp2_with fail
  refine (C1.out _ l1 k1).mono ?_
  rintro e w2 ⟨rfl, g2⟩
  exact ⟨rfl, gtrans G1.out g2, rfl⟩
set_option maxRecDepth 100000 in
set_option maxHeartbeats 3200000 in
theorem kp_rule_n2 (hL : LibW b w) (hb : b ≤ gw) (h : WordsAt w gw xs k) (hs : ShortW xs) (hk : k ≤ xs.length) {x0 : List UInt8} (h0 : wordAt xs k = some x0) {x1 : Nat} (h1 : numAt xs (k + 1) = some x1) (h2 : numAt xs (k + 2) = none) :
    Calls Tryz.prog 126 #[.pointer (some ⟨g, 0, none⟩), .string ⟨#[114, 117, 108, 101]⟩, .pointer (some ⟨gw, 0, none⟩)] w fun e w' => Disp b g gw xs w (none) e w' := by
  have hmf : ∀ fn first cap w, (Instr.makeFunc fn first cap).run Tryz.prog w = .ok (.func fn first cap) w := fun _ _ _ _ => rfl
  have hg := h.lt
  have HS0 := hide (hs x0 (List.mem_of_getElem? (show xs[k]? = some x0 from h0)))
  have IX1 := hide (numAt_i64 h1)
  have C0 := hide (fun w' (hw : LibW b w') (h : WordsAt w' gw xs (k)) => next_ok h h0)
  have C1 := hide (fun w' (hw : LibW b w') (h : WordsAt w' gw xs (k + 1)) => num_y hw hb h hs h1)
  have C2 := hide (fun w' (hw : LibW b w') (h : WordsAt w' gw xs (k + 2)) => num_n hw hb h hs (by exact numAt_le h1) h2)
  have HL := hide hL
  clear hs hL hk h0 h1 h2
  go_enter Tryz.func126, Tryz.ntmps126
  go_wp2_with fail
  have bD := Blk.new w 39 #[.pointer (some ⟨g, 0, none⟩)]
  have b0 := below_alloc (Below.refl w.heap.size w) (.cells #[.pointer (some ⟨g, 0, none⟩)] 39)
  have c0 : w.heap.size < (w.alloc (.cells #[.pointer (some ⟨g, 0, none⟩)] 39)).heap.size := by simp
  generalize w.alloc (.cells #[.pointer (some ⟨g, 0, none⟩)] 39) = w0 at bD b0 c0 ⊢
  have l0 : LibW b w0 := HL.out.below (b0.mono (by omega))
  have k0 := h.below b0
  have G0 := hide (gbelow b0 (some gw))
  have z0 : gw < w0.heap.size := by have := b0.size; omega
  have D0 := bD
  refine (C0.out _ l0 k0).mono ?_
  rintro e w1 ⟨rfl, k1, g1⟩
  have D1 := D0.kept g1 (by omega)
  have l1 : LibW b w1 := l0.below ((gbel g1 (Nat.le_of_lt z0)).mono hb)
  have G1 := hide (gtrans G0.out g1)
  have z1 : gw < w1.heap.size := by have := g1.size; omega
  clear g1 C0 k0 l0
  go_wp2_with fail
  refine (C1.out _ l1 k1).mono ?_
  rintro e w2 ⟨rfl, k2, g2⟩
  have D2 := D1.kept g2 (by omega)
  have l2 : LibW b w2 := l1.below ((gbel g2 (Nat.le_of_lt z1)).mono hb)
  have G2 := hide (gtrans G1.out g2)
  have z2 : gw < w2.heap.size := by have := g2.size; omega
  clear g2 C1 k1 l1
  go_wp2_with fail
  refine (C2.out _ l2 k2).mono ?_
  rintro e w3 ⟨rfl, g3⟩
  exact ⟨rfl, gtrans G2.out g3, rfl⟩
theorem kp_rule_is (hL : LibW b w) (hb : b ≤ gw) (h : WordsAt w gw xs k) (hs : ShortW xs) (hk : k ≤ xs.length) :
    Calls Tryz.prog 126 #[.pointer (some ⟨g, 0, none⟩), .string ⟨#[114, 117, 108, 101]⟩, .pointer (some ⟨gw, 0, none⟩)] w fun e w' => Disp b g gw xs w (ruleD xs k) e w' := by
  unfold ruleD
  cases h0 : wordAt xs k with
  | none => exact kp_rule_n0 hL hb h hs hk h0
  | some x0 =>
    cases h1 : numAt xs (k + 1) with
    | none => exact kp_rule_n1 hL hb h hs hk h0 h1
    | some x1 =>
      cases h2 : numAt xs (k + 2) with
      | none => exact kp_rule_n2 hL hb h hs hk h0 h1 h2
      | some x2 =>
        exact kp_rule hL hb h hs hk h0 h1 h2
set_option maxRecDepth 100000 in
set_option maxHeartbeats 3200000 in
theorem kp_of (hL : LibW b w) (hb : b ≤ gw) (h : WordsAt w gw xs k) (hs : ShortW xs) (hk : k ≤ xs.length) {x0 : List UInt8} (h0 : wordAt xs k = some x0) :
    Calls Tryz.prog 126 #[.pointer (some ⟨g, 0, none⟩), .string ⟨#[111, 102]⟩, .pointer (some ⟨gw, 0, none⟩)] w fun e w' => Disp b g gw xs w (some (k + 1, fun s => ofS s (tx x0))) e w' := by
  have hmf : ∀ fn first cap w, (Instr.makeFunc fn first cap).run Tryz.prog w = .ok (.func fn first cap) w := fun _ _ _ _ => rfl
  have hg := h.lt
  have HS0 := hide (hs x0 (List.mem_of_getElem? (show xs[k]? = some x0 from h0)))
  have C0 := hide (fun w' (hw : LibW b w') (h : WordsAt w' gw xs (k)) => next_ok h h0)
  have HL := hide hL
  clear hs hL hk h0
  go_enter Tryz.func126, Tryz.ntmps126
  go_wp2_with fail
  have bD := Blk.new w 39 #[.pointer (some ⟨g, 0, none⟩)]
  have b0 := below_alloc (Below.refl w.heap.size w) (.cells #[.pointer (some ⟨g, 0, none⟩)] 39)
  have c0 : w.heap.size < (w.alloc (.cells #[.pointer (some ⟨g, 0, none⟩)] 39)).heap.size := by simp
  generalize w.alloc (.cells #[.pointer (some ⟨g, 0, none⟩)] 39) = w0 at bD b0 c0 ⊢
  have l0 : LibW b w0 := HL.out.below (b0.mono (by omega))
  have k0 := h.below b0
  have G0 := hide (gbelow b0 (some gw))
  have z0 : gw < w0.heap.size := by have := b0.size; omega
  have D0 := bD
  refine (C0.out _ l0 k0).mono ?_
  rintro e w1 ⟨rfl, k1, g1⟩
  have D1 := D0.kept g1 (by omega)
  have l1 : LibW b w1 := l0.below ((gbel g1 (Nat.le_of_lt z0)).mono hb)
  have G1 := hide (gtrans G0.out g1)
  have z1 : gw < w1.heap.size := by have := g1.size; omega
  clear g1 C0 k0 l0
  go_wp2_with fail
  have B0 : Blk (w1.alloc (.cells #[.string (tx x0)] 9)) w1.heap.size 9 #[.string (tx x0)] := by
    have t := Blk.new w1 9 #[.string (tx x0)]
    simpa using t
  have bF : Below w1.heap.size w1 (w1.alloc (.cells #[.string (tx x0)] 9)) := below_alloc (Below.refl w1.heap.size w1) (.cells #[.string (tx x0)] 9)
  generalize hwf : (w1.alloc (.cells #[.string (tx x0)] 9)) = wf at B0 bF ⊢
  clear hwf
  go_ret
  exact ⟨gtrans G1.out (gbelow bF _), 198, _, rfl, k1.below bF, enters_of Tryz.func198 rfl rfl, fun w' s hw hL' hbg hD hO => keep7_any hL' hbg hD hO  ((D1.below bF D1.lt).below hw (D1.below bF D1.lt).lt) (B0.below hw B0.lt)⟩
set_option maxRecDepth 100000 in
set_option maxHeartbeats 3200000 in
theorem kp_of_n0 (hL : LibW b w) (hb : b ≤ gw) (h : WordsAt w gw xs k) (hs : ShortW xs) (hk : k ≤ xs.length) (h0 : wordAt xs k = none) :
    Calls Tryz.prog 126 #[.pointer (some ⟨g, 0, none⟩), .string ⟨#[111, 102]⟩, .pointer (some ⟨gw, 0, none⟩)] w fun e w' => Disp b g gw xs w (none) e w' := by
  have hmf : ∀ fn first cap w, (Instr.makeFunc fn first cap).run Tryz.prog w = .ok (.func fn first cap) w := fun _ _ _ _ => rfl
  have hg := h.lt
  have C0 := hide (fun w' (hw : LibW b w') (h : WordsAt w' gw xs (k)) => word_n h (by exact hk) h0)
  have HL := hide hL
  clear hs hL hk h0
  go_enter Tryz.func126, Tryz.ntmps126
  go_wp2_with fail
  have bD := Blk.new w 39 #[.pointer (some ⟨g, 0, none⟩)]
  have b0 := below_alloc (Below.refl w.heap.size w) (.cells #[.pointer (some ⟨g, 0, none⟩)] 39)
  have c0 : w.heap.size < (w.alloc (.cells #[.pointer (some ⟨g, 0, none⟩)] 39)).heap.size := by simp
  generalize w.alloc (.cells #[.pointer (some ⟨g, 0, none⟩)] 39) = w0 at bD b0 c0 ⊢
  have l0 : LibW b w0 := HL.out.below (b0.mono (by omega))
  have k0 := h.below b0
  have G0 := hide (gbelow b0 (some gw))
  have z0 : gw < w0.heap.size := by have := b0.size; omega
  have D0 := bD
  refine (C0.out _ l0 k0).mono ?_
  rintro e w1 ⟨rfl, g1⟩
  exact ⟨rfl, gtrans G0.out g1, rfl⟩
theorem kp_of_is (hL : LibW b w) (hb : b ≤ gw) (h : WordsAt w gw xs k) (hs : ShortW xs) (hk : k ≤ xs.length) :
    Calls Tryz.prog 126 #[.pointer (some ⟨g, 0, none⟩), .string ⟨#[111, 102]⟩, .pointer (some ⟨gw, 0, none⟩)] w fun e w' => Disp b g gw xs w (ofD xs k) e w' := by
  unfold ofD
  cases h0 : wordAt xs k with
  | none => exact kp_of_n0 hL hb h hs hk h0
  | some x0 =>
    exact kp_of hL hb h hs hk h0
end
end Go.Proofs.YtjpbjghdplbdcaaGreatDoor
end
