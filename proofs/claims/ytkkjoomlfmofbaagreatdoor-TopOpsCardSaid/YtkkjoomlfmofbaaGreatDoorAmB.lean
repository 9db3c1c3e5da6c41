import Derived.Test.YtkkjoomlfmofbaaGreatDoorAmA
import Derived.IntWalk
import Derived.Lib.ConvBytes
import Derived.Laws.Strings
set_option linter.unusedSimpArgs false
set_option linter.unusedVariables false
set_option linter.unusedSectionVars false
/-! Operations: make, conversions, copy, tests; all of them together. -/
namespace Go.Am

variable {P : Program} {g : Gh} {h : Heap} {w : World}

theorem wrap_i64 {n : Int} (h : -9223372036854775808 ≤ n ∧ n ≤ 9223372036854775807) : IntKind.i64.wrap n = n := by rw [IntKind.wrap_i64]; omega

theorem wrap_u8 {n : Int} (h : 0 ≤ n ∧ n ≤ 255) : IntKind.u8.wrap n = n := by
  have e : (2 ^ IntKind.u8.bits : Int) = 256 := by decide
  simp only [IntKind.wrap, e, IntKind.signed, Bool.false_and, Bool.false_eq_true, if_false]
  omega

theorem fastWrap_eq (k : IntKind) (n : Int) : fastWrap k n = k.wrap n := by
  cases k <;> simp only [fastWrap]
  · split
    · rename_i hh; rw [wrap_i64 hh]
    · rfl
  · split
    · rename_i hh; rw [wrap_u8 hh]
    · rfl

theorem kindNo_inj {k k' : IntKind} (h : Nat.beq (kindNo k) (kindNo k') = true) : k = k' := by
  cases k <;> cases k' <;> first | rfl | (simp [kindNo] at h)

theorem eqGuard_run (op : BinOp) (t : TypeId) (x y : Operand) {a b : Value} (h1 : ¬ (a = .nilIface ∧ b = .nilIface)) (h2 : ¬ (isAggV a = true ∧ isAggV b = true)) (w : World) :
    (eqGuard op t x y a b).run P w = .ok () w := by
  cases op <;> cases a <;> cases b <;> first | rfl | (exact absurd ⟨rfl, rfl⟩ h1) | (exact absurd ⟨rfl, rfl⟩ h2)

theorem toList_data (s : ByteArray) : s.toList = s.data.toList := ByteArray.toList_eq s

theorem fastBin_run [Nu] {op : BinOp} {t : TypeId} {ox oy : Operand} {x y z : AV} {a b : Value} (hx : V g h w x a) (hy : V g h w y b) (hf : fastBin op x y = some z) :
    ∃ u, (do eqGuard op t ox oy a b; binOp op t a b).run P w = .ok u w ∧ V g h w z u := by
  unfold fastBin at hf
  split at hf
  · rename_i k m k' m'
    rw [hx.lit_inv, hy.lit_inv]
    split at hf
    · rename_i hk
      have hk := kindNo_inj hk
      subst hk
      rw [Sem.run_bind, eqGuard_run _ _ _ _ (by simp) (by simp [isAggV])]
      simp only [Result.andThen_ok]
      cases op <;> simp only [reduceCtorEq] at hf <;> first | (cases hf; done) | (
        simp only [Option.some.injEq] at hf
        subst hf
        refine ⟨_, ?_, .deep (.lit rfl)⟩
        simp only [binOp, ne_eq, not_true, if_false, Op.intArith, Op.intCmp, Sem.run_pure, fastWrap_eq]
        try rfl)
    · cases hf
  · rename_i s s'
    rw [hx.lit_inv, hy.lit_inv]
    rw [Sem.run_bind, eqGuard_run _ _ _ _ (by simp) (by simp [isAggV])]
    simp only [Result.andThen_ok]
    cases op <;> simp only [reduceCtorEq] at hf <;> first | (cases hf; done) | skip
    · split at hf
      · rename_i hl
        cases hf
        refine ⟨_, ?_, .deep (.lit rfl)⟩
        have h1 : s.size = s.data.toList.length := by show s.data.size = _; rw [Array.length_toList]
        have h2 : s'.size = s'.data.toList.length := by show s'.data.size = _; rw [Array.length_toList]
        have e60 : (2 : Nat) ^ 60 = 1152921504606846976 := by decide
        have emax : IntKind.i64.max = 9223372036854775807 := by decide
        simp only [binOp, Op.stringOp]
        rw [if_neg (by rw [emax, h1, h2]; omega)]
        simp only [Sem.run_pure]
        rw [show s ++ s' = ⟨⟨s.data.toList ++ s'.data.toList⟩⟩ from ?_]
        apply ByteArray.ext
        apply Array.ext'
        simp
      · cases hf
    · cases hf
      exact ⟨_, by simp only [binOp, Op.stringOp, Sem.run_pure, toList_data], .deep (.lit rfl)⟩
    · cases hf
      exact ⟨_, by simp only [binOp, Op.stringOp, Sem.run_pure, toList_data], .deep (.lit rfl)⟩
  · rename_i m m'
    rw [hx.sym_inv, hy.sym_inv]
    split at hf
    · rename_i hk
      simp only [Bool.and_eq_true, Bool.or_eq_true] at hk
      have h1 : m = 1000 ∨ m = 1001 := hk.1.imp Nat.eq_of_beq_eq_true Nat.eq_of_beq_eq_true
      have h2 : m' = 1000 ∨ m' = 1001 := hk.2.imp Nat.eq_of_beq_eq_true Nat.eq_of_beq_eq_true
      rw [Sem.run_bind, eqGuard_run _ _ _ _ (by simp) (by simp [isAggV])]
      simp only [Result.andThen_ok]
      cases op <;> simp only [reduceCtorEq] at hf <;> first | (cases hf; done) | skip
      · cases hf
        refine ⟨_, ?_, .deep (.lit rfl)⟩
        simp only [binOp, ne_eq, not_true, if_false, Nu.eql m m' h1 h2, Sem.run_pure]
      · cases hf
        refine ⟨_, ?_, .deep (.lit rfl)⟩
        simp only [binOp, ne_eq, not_true, if_false, Nu.neq m m' h1 h2, Sem.run_pure]
    · split at hf
      · rename_i hk
        simp only [Bool.and_eq_true] at hk
        have h1 : m = 1003 := Nat.eq_of_beq_eq_true hk.1
        have h2 : m' = 1004 := Nat.eq_of_beq_eq_true hk.2
        subst h1; subst h2
        rw [Sem.run_bind, eqGuard_run _ _ _ _ (by simp) (by simp [isAggV])]
        simp only [Result.andThen_ok]
        cases op <;> simp only [reduceCtorEq] at hf <;> first | (cases hf; done) | skip
        · cases hf
          refine ⟨_, ?_, .deep (.lit rfl)⟩
          simp only [binOp, ne_eq, not_true, if_false, Nu.eqlA, Sem.run_pure]
        · cases hf
          refine ⟨_, ?_, .deep (.lit rfl)⟩
          simp only [binOp, ne_eq, not_true, if_false, Nu.neqA, Sem.run_pure]
      · cases hf
  · rename_i m r i
    rw [hx.sym_inv, hy.lit_inv]
    split at hf
    · rename_i hk
      simp only [Bool.and_eq_true] at hk
      have h1 : m = 1002 := Nat.eq_of_beq_eq_true hk.1
      have h2 : r = 0 := Nat.eq_of_beq_eq_true hk.2.1
      have h3 : i = 0 := Nat.eq_of_beq_eq_true hk.2.2
      subst h1; subst h2; subst h3
      rw [Sem.run_bind, eqGuard_run _ _ _ _ (by simp) (by simp [isAggV])]
      simp only [Result.andThen_ok]
      cases op <;> simp only [reduceCtorEq] at hf <;> first | (cases hf; done) | skip
      · cases hf
        refine ⟨_, ?_, .deep (.lit rfl)⟩
        simp only [binOp, ne_eq, not_true, if_false, Nu.eql0, Sem.run_pure]
      · cases hf
        refine ⟨_, ?_, .deep (.lit rfl)⟩
        simp only [binOp, ne_eq, not_true, if_false, Nu.neq0, Sem.run_pure]
    · cases hf
  · cases hf


theorem nilTest_of [Nu] {op : BinOp} {t : TypeId} {ox oy : Operand} {z : AV} {a b : Value} (h1 : ¬ (a = .nilIface ∧ b = .nilIface)) (h2 : ¬ (isAggV a = true ∧ isAggV b = true))
    (h3' : ∀ d, (Op.equalIn (d + 1) t a b).run P w = .ok false w)
    (h4 : binOp .eql t a b = (do pure (.bool (← Op.equal t a b)))) (h4' : binOp .neq t a b = (do pure (.bool (!(← Op.equal t a b)))))
    (h5 : (match op with | .eql => some (AV.lit (.bool false)) | .neq => some (.lit (.bool true)) | _ => none) = some z) :
    ∃ u, (do eqGuard op t ox oy a b; binOp op t a b).run P w = .ok u w ∧ V g h w z u := by
  have hd : Op.maxDepth = 9999 + 1 := rfl
  have h3 := h3' 9999
  rw [← hd] at h3
  rw [Sem.run_bind, eqGuard_run _ _ _ _ h1 h2]
  simp only [Result.andThen_ok]
  cases op with
  | eql =>
    cases h5
    rw [h4]
    exact ⟨.bool false, by simp only [Op.equal, Sem.run_bind, h3, Result.andThen_ok, Sem.run_pure], .deep (.lit rfl)⟩
  | neq =>
    cases h5
    rw [h4']
    exact ⟨.bool true, by simp only [Op.equal, Sem.run_bind, h3, Result.andThen_ok, Sem.run_pure, Bool.not_false], .deep (.lit rfl)⟩
  | _ => cases h5

theorem isNil_inv [Nu] {k : NilK} {x : AV} {a : Value} (hx : V g h w x a) (hn : isNil k x = true) :
    (k = .ptr ∧ a = .pointer none) ∨ (k = .slice ∧ a = .slice none 0 0) ∨ (k = .func ∧ a = .nilFunc) ∨ (k = .iface ∧ a = .nilIface) := by
  cases k <;> simp only [isNil] at hn
  · split at hn
    · exact .inl ⟨rfl, hx.lit_inv⟩
    · cases hn
  · split at hn
    · exact .inr (.inl ⟨rfl, hx.lit_inv⟩)
    · cases hn
  · split at hn
    · exact .inr (.inr (.inl ⟨rfl, hx.lit_inv⟩))
    · cases hn
  · split at hn
    · exact .inr (.inr (.inr ⟨rfl, hx.lit_inv⟩))
    · cases hn
  · cases hn

theorem isThere_inv [Nu] {k : NilK} {x : AV} {a : Value} (hx : V g h w x a) (hn : isThere k x = true) :
    (k = .ptr ∧ ∃ ad, a = .pointer (some ad)) ∨ (k = .slice ∧ ∃ ad n c, a = .slice (some ad) n c) ∨ (k = .func ∧ ∃ f x y, a = .func f x y) ∨ (k = .iface ∧ ∃ t v, a = .iface t v) := by
  cases k <;> simp only [isThere] at hn
  · split at hn
    · obtain ⟨b0, o0, rfl, _⟩ := hx.ptr_shift; exact .inl ⟨rfl, _, rfl⟩
    · obtain ⟨b0, o0, rfl, _⟩ := hx.iptr_shift; exact .inl ⟨rfl, _, rfl⟩
    · cases hn
  · split at hn
    · obtain ⟨ad, cap, rfl, _⟩ := hx.sl_inv; exact .inr (.inl ⟨rfl, _, _, _, rfl⟩)
    · have hd2 := hx.isl_inv
      cases hd2 with
      | isl u hc hff hs ha hok hh =>
        obtain ⟨b0, o0, rfl, _⟩ := ha (by simp)
        exact .inr (.inl ⟨rfl, _, _, _, rfl⟩)
    · cases hn
  · split at hn
    · cases hx with
      | deep hd => cases hd; exact .inr (.inr (.inl ⟨rfl, _, _, _, rfl⟩))
      | fn => exact .inr (.inr (.inl ⟨rfl, _, _, _, rfl⟩))
    · cases hn
  · split at hn
    · cases hx with
      | deep hd => cases hd; exact .inr (.inr (.inr ⟨rfl, _, _, rfl⟩))
      | iface => exact .inr (.inr (.inr ⟨rfl, _, _, rfl⟩))
    · cases hn
  · cases hn

theorem nilKind_inv {t : TypeId} : (nilKind P t = .ptr → ∃ e, P.underlying t = some (.pointer e)) ∧ (nilKind P t = .slice → ∃ e, P.underlying t = some (.slice e)) ∧
    (nilKind P t = .func → ∃ a b c, P.underlying t = some (.func a b c)) ∧ (nilKind P t = .iface → ∃ a, P.underlying t = some (.interface a)) := by
  unfold nilKind
  refine ⟨fun hk => ?_, fun hk => ?_, fun hk => ?_, fun hk => ?_⟩
  all_goals (split at hk <;> first | (cases hk; done) | (rename_i hu; exact ⟨_, hu⟩) | (rename_i hu; exact ⟨_, _, _, hu⟩))

theorem nilTest_run [Nu] {op : BinOp} {t : TypeId} {ox oy : Operand} {x y z : AV} {a b : Value} (hx : V g h w x a) (hy : V g h w y b) (hf : nilTest P op t x y = some z) :
    ∃ u, (do eqGuard op t ox oy a b; binOp op t a b).run P w = .ok u w ∧ V g h w z u := by
  unfold nilTest at hf
  simp only at hf
  obtain ⟨k1, k2, k3, k4⟩ := nilKind_inv (P := P) (t := t)
  split at hf
  · rename_i hc
    rw [Bool.or_eq_true, Bool.and_eq_true, Bool.and_eq_true] at hc
    rcases hc with ⟨c1, c2⟩ | ⟨c1, c2⟩
    · rcases isNil_inv hy c1 with ⟨e1, rfl⟩ | ⟨e1, rfl⟩ | ⟨e1, rfl⟩ | ⟨e1, rfl⟩ <;> rcases isThere_inv hx c2 with ⟨e2, ad, rfl⟩ | ⟨e2, ad, n, c, rfl⟩ | ⟨e2, f, p, q, rfl⟩ | ⟨e2, ti, tv, rfl⟩ <;> rw [e1] at e2 <;> first | (cases e2; done) | skip
      · obtain ⟨e, hu⟩ := k1 e1
        exact nilTest_of (by simp) (by simp [isAggV]) (fun d => by simp only [Op.equalIn, Sem.run_bind, run_underlying hu, Result.andThen_ok]; rfl) rfl rfl hf
      · obtain ⟨e, hu⟩ := k2 e1
        exact nilTest_of (by simp) (by simp [isAggV]) (fun d => by simp only [Op.equalIn, Sem.run_bind, run_underlying hu, Result.andThen_ok]; rfl) rfl rfl hf
      · obtain ⟨_, _, _, hu⟩ := k3 e1
        exact nilTest_of (by simp) (by simp [isAggV]) (fun d => by simp only [Op.equalIn, Sem.run_bind, run_underlying hu, Result.andThen_ok]; rfl) rfl rfl hf
      · obtain ⟨_, hu⟩ := k4 e1
        exact nilTest_of (by simp) (by simp [isAggV]) (fun d => by simp only [Op.equalIn, Sem.run_bind, run_underlying hu, Result.andThen_ok]; rfl) rfl rfl hf
    · rcases isNil_inv hx c1 with ⟨e1, rfl⟩ | ⟨e1, rfl⟩ | ⟨e1, rfl⟩ | ⟨e1, rfl⟩ <;> rcases isThere_inv hy c2 with ⟨e2, ad, rfl⟩ | ⟨e2, ad, n, c, rfl⟩ | ⟨e2, f, p, q, rfl⟩ | ⟨e2, ti, tv, rfl⟩ <;> rw [e1] at e2 <;> first | (cases e2; done) | skip
      · obtain ⟨e, hu⟩ := k1 e1
        exact nilTest_of (by simp) (by simp [isAggV]) (fun d => by simp only [Op.equalIn, Sem.run_bind, run_underlying hu, Result.andThen_ok]; rfl) rfl rfl hf
      · obtain ⟨e, hu⟩ := k2 e1
        exact nilTest_of (by simp) (by simp [isAggV]) (fun d => by simp only [Op.equalIn, Sem.run_bind, run_underlying hu, Result.andThen_ok]; rfl) rfl rfl hf
      · obtain ⟨_, _, _, hu⟩ := k3 e1
        exact nilTest_of (by simp) (by simp [isAggV]) (fun d => by simp only [Op.equalIn, Sem.run_bind, run_underlying hu, Result.andThen_ok]; rfl) rfl rfl hf
      · obtain ⟨_, hu⟩ := k4 e1
        exact nilTest_of (by simp) (by simp [isAggV]) (fun d => by simp only [Op.equalIn, Sem.run_bind, run_underlying hu, Result.andThen_ok]; rfl) rfl rfl hf
  · cases hf

theorem fastCut_run [Nu] {t : TypeId} {x y : AV} {lo hi mx : Option AV} {v : Value} {vl vh vm : Option Value} (hv : V g h w x v) (hl : optV g h w lo vl) (hh : optV g h w hi vh) (hm : optV g h w mx vm)
    (hf : fastCut x lo hi mx = some y) (ht : P.underlying t = some .string) : ∃ u, (Instr.sliceAt t v vl vh vm).run P w = .ok u w ∧ V g h w y u := by
  unfold fastCut at hf
  split at hf
  · rename_i s
    have := hv.lit_inv
    subst this
    have hvm : vm = none := by
      cases vm with
      | none => rfl
      | some q => exact hm.elim
    subst hvm
    split at hf
    · rename_i l r h1 h2
      split at hf
      · rename_i hb
        cases hf
        have hsz : s.size = s.data.toList.length := by show s.data.size = _; rw [Array.length_toList]
        have B : ∀ (k : IntKind) (n y : Nat) (code : BoundsCode), n ≤ y → (Instr.sliceBound (.int k (n : Int)) y code).run P w = .ok n w := fun k n y code hn => by
          rw [run_sliceBound _ _ _ _ _ (by omega) (by omega), Int.toNat_natCast]
        have hx : ByteArray.mk ⟨(s.data.toList.drop l).take (r - l)⟩ = s.extract l r := by
          apply ByteArray.ext
          apply Array.ext'
          simp [ByteArray.data_extract]
        refine ⟨.string (s.extract l r), ?_, by rw [hx]; exact .deep (.lit rfl)⟩
        rw [← hsz] at h2 hb
        rcases bound_run hl h1 with ⟨rfl, rfl, rfl⟩ | ⟨k1, rfl, e1⟩ <;> rcases bound_run hh h2 with ⟨rfl, rfl, rfl⟩ | ⟨k2, rfl, e2⟩ <;>
          simp (disch := omega) only [Instr.sliceAt, Instr.slice, Sem.run_bind, run_underlying ht, Result.andThen_ok, Option.isSome_none, Bool.false_eq_true, if_false, Instr.sliceBounds, Sem.run_pure, B]
      · cases hf
    · cases hf
  · cases hf

end Go.Am
