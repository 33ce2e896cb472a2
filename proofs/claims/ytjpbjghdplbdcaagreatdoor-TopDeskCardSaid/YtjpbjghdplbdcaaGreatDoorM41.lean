/- Proves the parts of the claim that its last text joins: DispF, DkE, DkL. Conditions: those that each theorem names. -/
import Derived.Test.YtjpbjghdplbdcaaGreatDoorM39
import Derived.Test.YtjpbjghdplbdcaaGreatDoorM40
import Derived.Test.YtjpbjghdplbdcaaGreatDoorM21
import Derived.Test.YtjpbjghdplbdcaaGreatDoorM04
import Derived.Carry
import Derived.Maps.RangeWalk
import Derived.Maps.OwnSet
import Derived.StringKeys
section
namespace Go.Proofs.YtjpbjghdplbdcaaGreatDoor
open Go.RowKit Go.Shelf
section
variable {b : Nat} {w : World} {g gw k : Nat} {xs : List (List UInt8)}
set_option maxRecDepth 100000 in
set_option maxHeartbeats 3200000 in
theorem fall_pond {r : Option (Nat × (DSt → Said))} (H : Calls Tryz.prog 126 #[.pointer (some ⟨g, 0, none⟩), .string ⟨#[112, 111, 110, 100]⟩, .pointer (some ⟨gw, 0, none⟩)] w fun e w' => Disp b g gw xs w r e w') :
    Calls Tryz.prog 35 #[.pointer (some ⟨g, 0, none⟩), .string ⟨#[112, 111, 110, 100]⟩, .pointer (some ⟨gw, 0, none⟩)] w fun e w' => Disp b g gw xs w r e w' := by
  cases r with
  | none =>
    have HH := hide H
    clear H
    go_enter Tryz.func35, Tryz.ntmps35
    go_wp2_with fail
    refine HH.out.mono ?_
    rintro e w1 ⟨g1, rfl⟩
    exact ⟨rfl, g1, rfl⟩
  | some r =>
    obtain ⟨k', R⟩ := r
    have HH := hide H
    clear H
    go_enter Tryz.func35, Tryz.ntmps35
    go_wp2_with fail
    refine HH.out.mono ?_
    rintro e w1 ⟨g1, F, caps, rfl, h1, wl⟩
    go_wp2_with fail
    go_ret
    exact ⟨g1, F, caps, rfl, h1, wl⟩
theorem rd_pond_is (hL : LibW b w) (hb : b ≤ gw) (h : WordsAt w gw xs k) (hs : ShortW xs) (hk : k ≤ xs.length) :
    Calls Tryz.prog 35 #[.pointer (some ⟨g, 0, none⟩), .string ⟨#[112, 111, 110, 100]⟩, .pointer (some ⟨gw, 0, none⟩)] w fun e w' => Disp b g gw xs w (pondD xs k) e w' := fall_pond (kp_pond_is hL hb h hs hk)
set_option maxRecDepth 100000 in
set_option maxHeartbeats 3200000 in
theorem fall_least {r : Option (Nat × (DSt → Said))} (H : Calls Tryz.prog 126 #[.pointer (some ⟨g, 0, none⟩), .string ⟨#[108, 101, 97, 115, 116]⟩, .pointer (some ⟨gw, 0, none⟩)] w fun e w' => Disp b g gw xs w r e w') :
    Calls Tryz.prog 35 #[.pointer (some ⟨g, 0, none⟩), .string ⟨#[108, 101, 97, 115, 116]⟩, .pointer (some ⟨gw, 0, none⟩)] w fun e w' => Disp b g gw xs w r e w' := by
  cases r with
  | none =>
    have HH := hide H
    clear H
    go_enter Tryz.func35, Tryz.ntmps35
    go_wp2_with fail
    refine HH.out.mono ?_
    rintro e w1 ⟨g1, rfl⟩
    exact ⟨rfl, g1, rfl⟩
  | some r =>
    obtain ⟨k', R⟩ := r
    have HH := hide H
    clear H
    go_enter Tryz.func35, Tryz.ntmps35
    go_wp2_with fail
    refine HH.out.mono ?_
    rintro e w1 ⟨g1, F, caps, rfl, h1, wl⟩
    go_wp2_with fail
    go_ret
    exact ⟨g1, F, caps, rfl, h1, wl⟩
theorem rd_least_is (hL : LibW b w) (hb : b ≤ gw) (h : WordsAt w gw xs k) (hs : ShortW xs) (hk : k ≤ xs.length) :
    Calls Tryz.prog 35 #[.pointer (some ⟨g, 0, none⟩), .string ⟨#[108, 101, 97, 115, 116]⟩, .pointer (some ⟨gw, 0, none⟩)] w fun e w' => Disp b g gw xs w (leastD xs k) e w' := fall_least (kp_least_is hL hb h hs hk)
set_option maxRecDepth 100000 in
set_option maxHeartbeats 3200000 in
theorem fall_many {r : Option (Nat × (DSt → Said))} (H : Calls Tryz.prog 126 #[.pointer (some ⟨g, 0, none⟩), .string ⟨#[109, 97, 110, 121]⟩, .pointer (some ⟨gw, 0, none⟩)] w fun e w' => Disp b g gw xs w r e w') :
    Calls Tryz.prog 35 #[.pointer (some ⟨g, 0, none⟩), .string ⟨#[109, 97, 110, 121]⟩, .pointer (some ⟨gw, 0, none⟩)] w fun e w' => Disp b g gw xs w r e w' := by
  cases r with
  | none =>
    have HH := hide H
    clear H
    go_enter Tryz.func35, Tryz.ntmps35
    go_wp2_with fail
    refine HH.out.mono ?_
    rintro e w1 ⟨g1, rfl⟩
    exact ⟨rfl, g1, rfl⟩
  | some r =>
    obtain ⟨k', R⟩ := r
    have HH := hide H
    clear H
    go_enter Tryz.func35, Tryz.ntmps35
    go_wp2_with fail
    refine HH.out.mono ?_
    rintro e w1 ⟨g1, F, caps, rfl, h1, wl⟩
    go_wp2_with fail
    go_ret
    exact ⟨g1, F, caps, rfl, h1, wl⟩
theorem rd_many_is (hL : LibW b w) (hb : b ≤ gw) (h : WordsAt w gw xs k) (hs : ShortW xs) (hk : k ≤ xs.length) :
    Calls Tryz.prog 35 #[.pointer (some ⟨g, 0, none⟩), .string ⟨#[109, 97, 110, 121]⟩, .pointer (some ⟨gw, 0, none⟩)] w fun e w' => Disp b g gw xs w (manyD xs k) e w' := fall_many (kp_many_is hL hb h hs hk)
set_option maxRecDepth 100000 in
set_option maxHeartbeats 3200000 in
theorem fall_few {r : Option (Nat × (DSt → Said))} (H : Calls Tryz.prog 126 #[.pointer (some ⟨g, 0, none⟩), .string ⟨#[102, 101, 119]⟩, .pointer (some ⟨gw, 0, none⟩)] w fun e w' => Disp b g gw xs w r e w') :
    Calls Tryz.prog 35 #[.pointer (some ⟨g, 0, none⟩), .string ⟨#[102, 101, 119]⟩, .pointer (some ⟨gw, 0, none⟩)] w fun e w' => Disp b g gw xs w r e w' := by
  cases r with
  | none =>
    have HH := hide H
    clear H
    go_enter Tryz.func35, Tryz.ntmps35
    go_wp2_with fail
    refine HH.out.mono ?_
    rintro e w1 ⟨g1, rfl⟩
    exact ⟨rfl, g1, rfl⟩
  | some r =>
    obtain ⟨k', R⟩ := r
    have HH := hide H
    clear H
    go_enter Tryz.func35, Tryz.ntmps35
    go_wp2_with fail
    refine HH.out.mono ?_
    rintro e w1 ⟨g1, F, caps, rfl, h1, wl⟩
    go_wp2_with fail
    go_ret
    exact ⟨g1, F, caps, rfl, h1, wl⟩
theorem rd_few_is (hL : LibW b w) (hb : b ≤ gw) (h : WordsAt w gw xs k) (hs : ShortW xs) (hk : k ≤ xs.length) :
    Calls Tryz.prog 35 #[.pointer (some ⟨g, 0, none⟩), .string ⟨#[102, 101, 119]⟩, .pointer (some ⟨gw, 0, none⟩)] w fun e w' => Disp b g gw xs w (fewD xs k) e w' := fall_few (kp_few_is hL hb h hs hk)
set_option maxRecDepth 100000 in
set_option maxHeartbeats 3200000 in
theorem fall_ask {r : Option (Nat × (DSt → Said))} (H : Calls Tryz.prog 126 #[.pointer (some ⟨g, 0, none⟩), .string ⟨#[97, 115, 107]⟩, .pointer (some ⟨gw, 0, none⟩)] w fun e w' => Disp b g gw xs w r e w') :
    Calls Tryz.prog 35 #[.pointer (some ⟨g, 0, none⟩), .string ⟨#[97, 115, 107]⟩, .pointer (some ⟨gw, 0, none⟩)] w fun e w' => Disp b g gw xs w r e w' := by
  cases r with
  | none =>
    have HH := hide H
    clear H
    go_enter Tryz.func35, Tryz.ntmps35
    go_wp2_with fail
    refine HH.out.mono ?_
    rintro e w1 ⟨g1, rfl⟩
    exact ⟨rfl, g1, rfl⟩
  | some r =>
    obtain ⟨k', R⟩ := r
    have HH := hide H
    clear H
    go_enter Tryz.func35, Tryz.ntmps35
    go_wp2_with fail
    refine HH.out.mono ?_
    rintro e w1 ⟨g1, F, caps, rfl, h1, wl⟩
    go_wp2_with fail
    go_ret
    exact ⟨g1, F, caps, rfl, h1, wl⟩
theorem rd_ask_is (hL : LibW b w) (hb : b ≤ gw) (h : WordsAt w gw xs k) (hs : ShortW xs) (hk : k ≤ xs.length) :
    Calls Tryz.prog 35 #[.pointer (some ⟨g, 0, none⟩), .string ⟨#[97, 115, 107]⟩, .pointer (some ⟨gw, 0, none⟩)] w fun e w' => Disp b g gw xs w (askD xs k) e w' := fall_ask (kp_ask_is hL hb h hs hk)
set_option maxRecDepth 100000 in
set_option maxHeartbeats 3200000 in
theorem fall_rule {r : Option (Nat × (DSt → Said))} (H : Calls Tryz.prog 126 #[.pointer (some ⟨g, 0, none⟩), .string ⟨#[114, 117, 108, 101]⟩, .pointer (some ⟨gw, 0, none⟩)] w fun e w' => Disp b g gw xs w r e w') :
    Calls Tryz.prog 35 #[.pointer (some ⟨g, 0, none⟩), .string ⟨#[114, 117, 108, 101]⟩, .pointer (some ⟨gw, 0, none⟩)] w fun e w' => Disp b g gw xs w r e w' := by
  cases r with
  | none =>
    have HH := hide H
    clear H
    go_enter Tryz.func35, Tryz.ntmps35
    go_wp2_with fail
    refine HH.out.mono ?_
    rintro e w1 ⟨g1, rfl⟩
    exact ⟨rfl, g1, rfl⟩
  | some r =>
    obtain ⟨k', R⟩ := r
    have HH := hide H
    clear H
    go_enter Tryz.func35, Tryz.ntmps35
    go_wp2_with fail
    refine HH.out.mono ?_
    rintro e w1 ⟨g1, F, caps, rfl, h1, wl⟩
    go_wp2_with fail
    go_ret
    exact ⟨g1, F, caps, rfl, h1, wl⟩
theorem rd_rule_is (hL : LibW b w) (hb : b ≤ gw) (h : WordsAt w gw xs k) (hs : ShortW xs) (hk : k ≤ xs.length) :
    Calls Tryz.prog 35 #[.pointer (some ⟨g, 0, none⟩), .string ⟨#[114, 117, 108, 101]⟩, .pointer (some ⟨gw, 0, none⟩)] w fun e w' => Disp b g gw xs w (ruleD xs k) e w' := fall_rule (kp_rule_is hL hb h hs hk)
set_option maxRecDepth 100000 in
set_option maxHeartbeats 3200000 in
theorem fall_of {r : Option (Nat × (DSt → Said))} (H : Calls Tryz.prog 126 #[.pointer (some ⟨g, 0, none⟩), .string ⟨#[111, 102]⟩, .pointer (some ⟨gw, 0, none⟩)] w fun e w' => Disp b g gw xs w r e w') :
    Calls Tryz.prog 35 #[.pointer (some ⟨g, 0, none⟩), .string ⟨#[111, 102]⟩, .pointer (some ⟨gw, 0, none⟩)] w fun e w' => Disp b g gw xs w r e w' := by
  cases r with
  | none =>
    have HH := hide H
    clear H
    go_enter Tryz.func35, Tryz.ntmps35
    go_wp2_with fail
    refine HH.out.mono ?_
    rintro e w1 ⟨g1, rfl⟩
    exact ⟨rfl, g1, rfl⟩
  | some r =>
    obtain ⟨k', R⟩ := r
    have HH := hide H
    clear H
    go_enter Tryz.func35, Tryz.ntmps35
    go_wp2_with fail
    refine HH.out.mono ?_
    rintro e w1 ⟨g1, F, caps, rfl, h1, wl⟩
    go_wp2_with fail
    go_ret
    exact ⟨g1, F, caps, rfl, h1, wl⟩
theorem rd_of_is (hL : LibW b w) (hb : b ≤ gw) (h : WordsAt w gw xs k) (hs : ShortW xs) (hk : k ≤ xs.length) :
    Calls Tryz.prog 35 #[.pointer (some ⟨g, 0, none⟩), .string ⟨#[111, 102]⟩, .pointer (some ⟨gw, 0, none⟩)] w fun e w' => Disp b g gw xs w (ofD xs k) e w' := fall_of (kp_of_is hL hb h hs hk)
end
end Go.Proofs.YtjpbjghdplbdcaaGreatDoor
end
section
namespace Go.Proofs.YtjpbjghdplbdcaaGreatDoor
def Lo (e : Int) : Prop := 0 ≤ e ∧ e ≤ 99
theorem Lo.i64 {e : Int} (h : Lo e) : I64 e := by obtain ⟨h0, h1⟩ := h; constructor <;> omega
theorem lo_fault {f : Nat → Int} (h : ∀ i, Lo (f i)) : ∀ n, Lo (faultTo f n)
  | 0 => by constructor <;> simp [faultTo]
  | n + 1 => by
    rw [faultTo]
    split
    · exact h n
    · exact lo_fault h n
theorem lo_prErr (n : Nat) (ps : List Pr) : Lo (prErr n ps) := by
  unfold prErr
  split
  · constructor <;> omega
  · refine lo_fault (fun i => ?_) n
    unfold prStep
    dsimp only
    split
    · split <;> constructor <;> omega
    · constructor <;> omega
theorem lo_putErr (K S n d : Int) : Lo (putErr K S n d) := by
  unfold putErr pondErr Lo
  repeat' split
  all_goals omega
theorem lo_pond (s : DSt) (x d : Int) : Lo (pondS s x d).1 := by
  unfold pondS
  split
  · constructor <;> simp
  · exact lo_putErr _ _ _ _
theorem lo_least (s : DSt) (x : Int) : Lo (leastS s x).1 := by
  unfold leastS Lo
  split <;> simp
theorem lo_many (s : DSt) : Lo (manyS s).1 := by
  unfold manyS guE Lo
  dsimp only
  repeat' split
  all_goals omega
theorem lo_few (s : DSt) (k v : Int) : Lo (fewS s k v).1 := by
  have h : Lo (fewR s k v).1 := by
    unfold fewR finC Lo
    repeat' split
    all_goals simp
  unfold fewS
  split
  · constructor <;> simp
  · split
    · constructor <;> simp
    · exact h
theorem lo_ask (s : DSt) (k : Int) : Lo (askS s k).1 := by constructor <;> simp [askS]
theorem lo_one (r : Rul) : Lo (oneErr r) := by
  unfold oneErr Lo
  repeat' split
  all_goals omega
theorem lo_rule (s : DSt) (p : ByteArray) (a b : Int) : Lo (ruleS s p a b).1 := by
  have h : Lo (putOut (p, a, b) s.rules).1 := by
    unfold putOut jo
    split
    · exact lo_one _
    · unfold Lo
      repeat' split
      all_goals simp
  unfold ruleS
  split
  · constructor <;> simp
  · exact h
theorem lo_of (s : DSt) (p : ByteArray) : Lo (ofS s p).1 := by
  unfold ofS askOut Lo
  dsimp only
  repeat' split
  all_goals simp
theorem lo_th (n : Nat) : Lo (thQ n).1 := by
  unfold thQ dthV Lo
  dsimp only
  split <;> simp
theorem lo_part (a b : Nat) : Lo (partQ a b).1 := by
  unfold partQ partV Lo
  dsimp only
  split <;> simp
theorem lo_count (a b : Nat) : Lo (countQ a b).1 := by
  unfold countQ countV Lo
  dsimp only
  repeat' split
  all_goals simp
theorem lo_rd (s : List UInt8) : Lo (rdErr s) := by
  unfold rdErr
  split
  · constructor <;> omega
  · split
    · constructor <;> omega
    · split
      · exact lo_prErr _ _
      · constructor <;> omega
theorem lo_mk (n : Nat) (ps : List Pr) : Lo (mkErr n ps) := by unfold mkErr; cases pAll ps n <;> constructor <;> simp
theorem lo_set (ps : List Pr) (m : Mk) : Lo (setE ps m) := by
  unfold setE Lo
  repeat' split
  all_goals omega
theorem lo_write (ps : List Pr) : Lo (writeV ps).2 := by
  unfold writeV
  split
  · exact lo_prErr _ _
  · unfold wrE
    dsimp only
    split <;> constructor <;> omega
theorem lo_mark (s : List UInt8) : Lo (markQ s).1 := by
  unfold markQ
  split
  · exact lo_rd _
  · split
    · exact lo_mk _ _
    · split
      · exact lo_set _ _
      · exact lo_write _
def Brief (l : List UInt8) : Prop := l.length ≤ 4000000100
theorem brief_told {l : List Int} (h : l.length ≤ 1000) : Brief (toldOf l) := by have := toldOf_size l; unfold Brief; omega
theorem brief_nil : Brief [] := by simp [Brief]
theorem br_pond (s : DSt) (x d : Int) : Brief (pondS s x d).2.2 := by
  unfold pondS
  split
  · rename_i h
    have := (came_len (x := x) h).1
    exact brief_told (by omega)
  · exact brief_nil
theorem br_least (s : DSt) (x : Int) : Brief (leastS s x).2.2 := by
  unfold leastS
  split
  · exact brief_told (by simp; omega)
  · exact brief_nil
theorem br_many (s : DSt) : Brief (manyS s).2.2 := brief_told (by simp)
theorem br_few (s : DSt) (k v : Int) : Brief (fewS s k v).2.2 := by
  unfold fewS
  split
  · exact brief_nil
  · split
    · exact brief_told (by simp)
    · exact brief_nil
theorem br_ask (s : DSt) (k : Int) : Brief (askS s k).2.2 := brief_told (by simp)
theorem br_rule (s : DSt) (p : ByteArray) (a b : Int) : Brief (ruleS s p a b).2.2 := by
  unfold ruleS Brief
  split <;> simp
theorem br_of (s : DSt) (p : ByteArray) : Brief (ofS s p).2.2 := brief_told (by simp)
theorem br_th (n : Nat) : Brief (thQ n).2 := by
  have := dthV_size n
  unfold thQ Brief
  simp only [List.length_append, List.length_cons, List.length_nil]
  omega
theorem br_part (a b : Nat) : Brief (partQ a b).2 := brief_told (by simp)
theorem br_count (a b : Nat) : Brief (countQ a b).2 := brief_told (by simp)
theorem br_mark (s : List UInt8) : Brief (markQ s).2 := by
  unfold markQ
  split
  · exact brief_nil
  · split
    · exact brief_nil
    · split
      · exact brief_nil
      · have := writeV_size (set_short (rd_short (s := s)) (mkRes (rdRes s).length (rdRes s)))
        unfold Brief
        simp only [List.length_append, List.length_cons, List.length_nil]
        omega
theorem br_err (e : Int) : Brief ([101, 114, 114, 111, 114, 32] ++ dec e) := by
  have := dec_size e
  unfold Brief
  simp only [List.length_append, List.length_cons, List.length_nil]
  omega
end Go.Proofs.YtjpbjghdplbdcaaGreatDoor
end
section
namespace Go.Proofs.YtjpbjghdplbdcaaGreatDoor
open Go.RowKit Go.Maps
def heldV (v : Value) : Option (DataW Value × List MemPlace) := some (.held v, [])
abbrev kyw (s : List UInt8) : Lit := .string s
theorem kyw_inj {a b : List UInt8} (h : kyw a = kyw b) : a = b := by injection h
theorem kyw_key (a : List UInt8) : WideAt.IsKeyLit (kyw a) := trivial
def rankW : List UInt8 := [114, 97, 110, 107]
def combW : List UInt8 := [99, 111, 109, 98]
def aliasW : List UInt8 := [97, 108, 105, 97, 115]
def mostW : List UInt8 := [109, 111, 115, 116]
def listNo (s : List UInt8) : Option FuncId :=
  if s = mostW then some 92 else if s = aliasW then some 88 else if s = combW then some 86 else if s = rankW then some 83 else none
def fnV (F : FuncId) : Value := .func (.func F) #[] #[]
def listD : DataW Value := (((DataW.map []).put (kyw rankW) (.held (fnV 83)) |>.put (kyw combW) (.held (fnV 86))) |>.put (kyw aliasW) (.held (fnV 88))) |>.put (kyw mostW) (.held (fnV 92))
theorem listD_at (s : List UInt8) (z : DataW Value) : listD.atKey (kyw s) z = match listNo s with | some F => .held (fnV F) | none => z := by
  have m0 : IsMap (DataW.map [] : DataW Value) := ⟨[], rfl⟩
  unfold listD listNo
  by_cases h4 : s = mostW
  · subst h4
    rw [if_pos rfl, atKey_put_same (((m0.put _ _).put _ _).put _ _) (kyw_key _)]
  · rw [if_neg h4, atKey_put_other (fun h => h4 (kyw_inj h))]
    by_cases h3 : s = aliasW
    · subst h3
      rw [if_pos rfl, atKey_put_same ((m0.put _ _).put _ _) (kyw_key _)]
    · rw [if_neg h3, atKey_put_other (fun h => h3 (kyw_inj h))]
      by_cases h2 : s = combW
      · subst h2
        rw [if_pos rfl, atKey_put_same (m0.put _ _) (kyw_key _)]
      · rw [if_neg h2, atKey_put_other (fun h => h2 (kyw_inj h))]
        by_cases h1 : s = rankW
        · subst h1
          rw [if_pos rfl, atKey_put_same m0 (kyw_key _)]
        · rw [if_neg h1, atKey_put_other (fun h => h1 (kyw_inj h))]
          rfl
theorem Kwd : Keyed Tryz.prog 9 := string_keyed Tryz.underlying9
theorem wpList_insert_own {P : Program} (w : World) {ops : Array Oper} {rest : List Oper} {o : Oper} {a : Act} {Q : Exit → Act → World → Prop}
    (hg : o.guard = none) (m x v : Operand) (t : TypeId) (hop : o.op = Op.insert t m x v)
    (k e : TypeId) (K : Keyed P k) (ht : P.underlying t = some (.map k e)) (b n : Nat) (D : DataW Value)
    (hm : a.eval m = .map (some b)) (hown : w.ownsMap P k heldV b n D) (hn : n < maxLen) (key : ByteArray) (val : Value) (hx : a.eval x = .string key) (hv : a.eval v = val) (hk : P.underlying k = some .string) (hs : key.size ≤ maxLen)
    (hK : ∀ w', w'.ownsMap P k heldV b (n + 1) (D.put (kyw key.data.toList) (.held val)) → w.grownBy w' (some b) → wpList P ops Q rest (a.put o.dst undef) w') :
    wpList P ops Q (o :: rest) a w := by
  refine wpList_plain hg fun K' hK' => ?_
  obtain ⟨w', hrun, r1, r2⟩ := hown.update K ht hn (Go.WideMaps.keyOf_string_mk hk hs) (show heldV val = some (.held val, []) from rfl)
  unfold Oper.wp
  simp [execOp, hop, hm, hx, hv, hrun, Result.andThen]
  exact hK' _ _ (hK w' r1 r2)
theorem wpList_look_fn {P : Program} {w : World} {ops : Array Oper} {rest : List Oper} {o : Oper} {a : Act} {Q : Exit → Act → World → Prop} (hg : o.guard = none) (mo x : Operand) (t k e : TypeId) (hop : o.op = Op.lookup t mo x true)
    {b n : Nat} (hD : w.ownsMap P k heldV b n listD) (K : Keyed P k) (hk : P.underlying k = some .string) (ht : P.underlying t = some (.map k e)) (hz : (zeroValue e).run P w = .ok .nilFunc w) (hmo : a.eval mo = .map (some b)) (key : ByteArray) (hx : a.eval x = .string key) (hs : key.size ≤ maxLen) {V : Value} (hV : (match listNo key.data.toList with | some F => .tuple #[fnV F, .bool true] | none => .tuple #[.nilFunc, .bool false] : Value) = V)
    (hK : wpList P ops Q rest (a.put o.dst V) w) : wpList P ops Q (o :: rest) a w := by
  subst hV
  refine wpList_plain hg fun K' hK' => ?_
  have hrun : (Instr.lookup t (.map (some b)) (.string key) true).run P w = .ok (match listNo key.data.toList with | some F => .tuple #[fnV F, .bool true] | none => .tuple #[.nilFunc, .bool false]) w := by
    obtain ⟨v, ps, hrun, hv⟩ := hD.look_ok K ht hz (show heldV .nilFunc = some (.held .nilFunc, []) from rfl) (Go.WideMaps.keyOf_string_mk hk hs)
    rw [hrun]
    injection hv with hv
    injection hv with hv _
    have hq := fun z => listD_at key.data.toList z
    cases hl : listNo key.data.toList with
    | none =>
      rw [hl] at hq
      rw [hq] at hv
      injection hv with hv
      rw [has_false_of_atKey (k := kyw key.data.toList) (fun z => hq z), hv]
    | some F =>
      rw [hl] at hq
      rw [hq] at hv
      injection hv with hv
      rw [has_true_of_atKey (k := kyw key.data.toList) (fun z => hq z), hv]
  unfold Oper.wp
  simp [execOp, hop, hmo, hx, hrun, Result.andThen]
  exact hK' _ _ hK
set_option maxRecDepth 100000 in
set_option maxHeartbeats 3200000 in
theorem lists_none {s : List UInt8} (hs : s.length ≤ 1000000) (hl : listNo s = none) (w : World) : Calls Tryz.prog 32 #[.string (tx s)] w fun e w' => e = .returned (.tuple #[.nilFunc, .bool false]) ∧ Below w.heap.size w w' := by
  have hmm := @run_makeMap Tryz.prog
  have hz := tx_size s
  go_enter Tryz.func32, Tryz.ntmps32
  have hu : Tryz.prog.underlying 9 = some .string := Tryz.underlying9
  have hs0 : (w.alloc (.map #[] 0)).ownsMap Tryz.prog 9 heldV w.heap.size 0 (.map []) := World.ownsMap_made w Tryz.prog _ _
  have hb0 : Below w.heap.size w (w.alloc (.map #[] 0)) := by repeat' (first | assumption | with_reducible exact Below.refl _ _ | with_reducible apply Below.drew | with_reducible apply below_drewN | with_reducible apply below_alloc | with_reducible refine below_set ?_ ?_ _ | (simp only [World.size_alloc, World.heap_drewN]; omega) | (simp; omega))
  go_wp2_with (first | ((first     | (refine wpList_insert_own _ rfl _ _ _ _ rfl 9 _ Kwd Tryz.underlying145 w.heap.size 3 _ rfl hs3 (by simp only [maxLen]; omega) ⟨⟨mostW⟩⟩ (fnV 92) rfl rfl hu (by decide) ?_; intro w5 hs4 hg4) | (refine wpList_insert_own _ rfl _ _ _ _ rfl 9 _ Kwd Tryz.underlying145 w.heap.size 2 _ rfl hs2 (by simp only [maxLen]; omega) ⟨⟨aliasW⟩⟩ (fnV 88) rfl rfl hu (by decide) ?_; intro w4 hs3 hg3) | (refine wpList_insert_own _ rfl _ _ _ _ rfl 9 _ Kwd Tryz.underlying145 w.heap.size 1 _ rfl hs1 (by simp only [maxLen]; omega) ⟨⟨combW⟩⟩ (fnV 86) rfl rfl hu (by decide) ?_; intro w3 hs2 hg2) | (generalize w.alloc (.map #[] 0) = w1 at hs0 hb0 ⊢; refine wpList_insert_own _ rfl _ _ _ _ rfl 9 _ Kwd Tryz.underlying145 w.heap.size 0 _ rfl hs0 (by simp only [maxLen]; omega) ⟨⟨rankW⟩⟩ (fnV 83) rfl rfl hu (by decide) ?_; intro w2 hs1 hg1))) | (at_lookup; refine wpList_look_fn rfl _ _ _ 9 _ rfl hs4 Kwd hu Tryz.underlying145 (Tryz.zeroValue83 _) rfl (tx s) rfl (by simp only [maxLen]; omega) (show (match listNo s with | some F => .tuple #[fnV F, .bool true] | none => .tuple #[.nilFunc, .bool false] : Value) = _ by rw [hl]) ?_))
  go_ret2
  have hb := hb0.grown hg1 hb0.size (fun j hj => by injection hj with hj; omega)
  have hc := hb.grown hg2 hb.size (fun j hj => by injection hj with hj; omega)
  have hd := hc.grown hg3 hc.size (fun j hj => by injection hj with hj; omega)
  exact ⟨rfl, hd.grown hg4 hd.size (fun j hj => by injection hj with hj; omega)⟩
end Go.Proofs.YtjpbjghdplbdcaaGreatDoor
end
