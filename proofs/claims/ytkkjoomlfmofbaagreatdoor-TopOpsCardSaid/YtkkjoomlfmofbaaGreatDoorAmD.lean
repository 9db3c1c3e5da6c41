import Derived.Test.YtkkjoomlfmofbaaGreatDoorAmCN
set_option linter.unusedSectionVars false
/-! All operations but calls of functions. -/
namespace Go.Am
set_option linter.unusedSimpArgs false
set_option linter.unusedVariables false

variable {P : Program} {g : Gh} {h : Heap} {w : World} {ρ : Operand → Value} {e : Operand → AV}

theorem OpOk.val [Nu] {o : Oper} {v : AV} {h' : Heap} {s : Sem Value} (hex : execOp ρ o = (do pure (.value (← s))))
    (hh : ∃ u w' g', s.run P w = .ok u w' ∧ V g' h' w' v u ∧ Post g h w g' h' w' ∧ R g' h' w') : OpOk P ρ o g h w v h' := by
  obtain ⟨u, w', g', h1, h2, h3, h4⟩ := hh
  exact ⟨.value u, u, w', g', by rw [hex, Sem.run_bind, h1]; rfl, .inl rfl, h2, h3, h4⟩

theorem OpOk.val0 [Nu] (r : R g h w) {o : Oper} {v : AV} {s : Sem Value} (hex : execOp ρ o = (do pure (.value (← s))))
    (hh : ∃ u, s.run P w = .ok u w ∧ V g h w v u) : OpOk P ρ o g h w v h := by
  obtain ⟨u, h1, h2⟩ := hh
  exact .val hex ⟨u, w, g, h1, h2, Post.refl _ _ _, r⟩

theorem optV_map [Nu] (hE : ∀ x, V g h w (e x) (ρ x)) (x : Option Operand) : optV g h w (x.map e) (x.map ρ) := by
  cases x with
  | none => trivial
  | some x => exact hE x

theorem arr_two {α : Type} {a : Array α} {x y : α} (h : a.toList = [x, y]) : a = #[x, y] := by
  apply Array.ext'; simpa using h

theorem arr_one {α : Type} {a : Array α} {x : α} (h : a.toList = [x]) : a = #[x] := by
  apply Array.ext'; simpa using h

theorem keep_inv {x : Option AV} {v : AV} {h' : Heap} (hk : x.map (·, h) = some (v, h')) : x = some v ∧ h' = h := by
  cases x with
  | none => cases hk
  | some y => cases hk; exact ⟨rfl, rfl⟩

theorem builtin_ex {dst : Option Tmp} {b : Builtin} {args : Array Operand} {ats : Array TypeId} {ty : TypeId} {pos : String} {after : Array Edge} {guard : Option (Nat × Bool)} :
    execOp ρ ⟨dst, .call ⟨.builtin b, args, ats⟩, ty, pos, after, guard⟩ = builtin b ats ty (args.map fun | .const _ => true | _ => false) (args.map ρ) := rfl

set_option maxHeartbeats 4000000 in
theorem plainOp_ok [Nu] (r : R g h w) (hE : ∀ x, V g h w (e x) (ρ x)) {o : Oper} {v : AV} {h' : Heap} (hp : plainOp P e h o = some (v, h')) : OpOk P ρ o g h w v h' := by
  obtain ⟨dst, op, ty, pos, after, guard⟩ := o
  cases op with
  | move x => cases hp; exact .same r rfl (hE x)
  | assign x => cases hp; exact .same r rfl (hE x)
  | pick c a b =>
    simp only [plainOp] at hp
    split at hp
    · rename_i t hc
      cases hp
      have := hE c
      rw [hc] at this
      have := this.lit_inv
      refine .same (u := if t then ρ a else ρ b) r ?_ ?_
      · simp only [execOp, this, asBool, pure_bind]; rfl
      · cases t
        · exact hE b
        · exact hE a
    · cases hp
  | alloc t =>
    simp only [plainOp] at hp
    split at hp
    · rename_i z hz
      obtain ⟨zv, h1, rfl⟩ := zeroT_run hz w
      obtain ⟨k1, k2, k3⟩ := box_run r (ofVal_ok zv) hp t
      refine .val (s := Instr.alloc t true (.tuple #[])) rfl ⟨_, _, _, ?_, k1, k2, k3⟩
      simp [Instr.alloc, h1, newVar, newRow]
    · cases hp
  | box t x =>
    simp only [plainOp] at hp
    obtain ⟨k1, k2, k3⟩ := box_run r (hE x) hp t
    refine .val (s := Instr.box t (ρ x)) rfl ⟨_, _, _, ?_, k1, k2, k3⟩
    simp [Instr.box, newVar, newRow]
  | build t parts =>
    simp only [plainOp] at hp
    obtain ⟨h1, rfl⟩ := keep_inv hp
    exact .val0 r rfl (build_run (PV.map hE parts) h1)
  | buildSlice t len parts =>
    simp only [plainOp] at hp
    exact .val (s := Instr.buildSlice t len (parts.map fun (i, x) => (i, ρ x))) rfl (buildSlice_run r (PV.map hE parts) hp)
  | load t a =>
    simp only [plainOp] at hp
    obtain ⟨h1, rfl⟩ := keep_inv hp
    exact .val0 (s := Instr.loadAt t (ρ a)) r rfl (load_run r (hE a) h1)
  | store t a x =>
    simp only [plainOp] at hp
    cases hs : store P t (e a) (e x) h with
    | none => rw [hs] at hp; cases hp
    | some h2 =>
      rw [hs] at hp
      cases hp
      obtain ⟨w', g', k1, k2, k3⟩ := store_run r (hE a) (hE x) hs
      refine ⟨.skip, undef, w', g', ?_, .inr ⟨rfl, rfl⟩, .deep (.lit rfl), k2, k3⟩
      show (do Instr.storeAt t (ρ a) (ρ x); pure Next.skip : Sem Next).run P w = _
      rw [Sem.run_bind, k1]; rfl
  | nilCheck x =>
    simp only [plainOp] at hp
    have hx := hE x
    split at hp
    · rename_i he
      cases hp
      rw [he] at hx ⊢
      obtain ⟨b, o, e1, _⟩ := hx.ptr_shift
      refine .same r ?_ (u := ρ x) hx
      simp only [execOp, e1]; rfl
    · rename_i he
      cases hp
      rw [he] at hx ⊢
      obtain ⟨b, o, e1, _⟩ := hx.iptr_shift
      refine .same r ?_ (u := ρ x) hx
      simp only [execOp, e1]; rfl
    · rename_i f first cap he
      cases hp
      rw [he] at hx ⊢
      refine .same r ?_ (u := ρ x) hx
      have : ∃ a b, ρ x = .func (.func f) a b := by
        generalize ρ x = y at hx
        cases hx with
        | deep hd => cases hd; exact ⟨_, _, rfl⟩
        | fn => exact ⟨_, _, rfl⟩
      obtain ⟨a, b, e1⟩ := this
      simp only [execOp, e1]; rfl
    · cases hp
  | binOp op t x y yt =>
    simp only [plainOp] at hp
    obtain ⟨h1, rfl⟩ := keep_inv hp
    split at h1
    · rename_i z hz
      cases h1
      exact .val0 (s := do eqGuard op t x y (ρ x) (ρ y); binOp op t (ρ x) (ρ y)) r rfl (fastBin_run (hE x) (hE y) hz)
    · split at h1
      · rename_i z hz
        cases h1
        exact .val0 (s := do eqGuard op t x y (ρ x) (ρ y); binOp op t (ρ x) (ρ y)) r rfl (nilTest_run (hE x) (hE y) hz)
      · exact litOp_ok r hE (by simp) h1
  | unOp op t x =>
    simp only [plainOp] at hp
    split at hp
    · rename_i b hb
      cases hp
      have := hE x
      rw [hb] at this
      have := this.lit_inv
      refine .same r ?_ (u := .bool !b) (.deep (.lit rfl))
      simp only [execOp, this, Op.unary]; rfl
    · obtain ⟨h1, rfl⟩ := keep_inv hp
      exact litOp_ok r hE (by simp) h1
  | convert s d x =>
    simp only [plainOp] at hp
    obtain ⟨h1, rfl⟩ := keep_inv hp
    split at h1
    · rename_i ds k k' n hs hd he
      cases h1
      have := hE x
      rw [he] at this
      have hv := this.lit_inv
      refine .val0 (s := Go.convert s d (ρ x)) r rfl ⟨.int k (k.wrap n), ?_, by rw [fastWrap_eq]; exact .deep (.lit rfl)⟩
      rw [hv]
      simp [Go.convert, run_underlying hs, run_underlying hd, Conv.intToInt]
    · split at h1
      · rename_i z hz
        cases h1
        exact .val (s := Go.convert s d (ρ x)) rfl (convert_run r (hE x) hz)
      · exact litOp_ok r hE (by simp) h1
  | makeInterface t x =>
    simp only [plainOp] at hp
    split at hp
    · cases hp
    · cases hp
    · rename_i d hni hd
      have run : (Instr.makeInterface t (ρ x)).run P w = .ok (.iface t (ρ x)) w := by
        simp only [Instr.makeInterface, Sem.run_bind, run_underlying hd, Result.andThen_ok]
        cases d <;> first | rfl | (exact absurd rfl (hni _))
      have hx := hE x
      split at hp
      · rename_i y hy
        cases hp
        rw [hy] at hx
        refine .val0 (s := Instr.makeInterface t (ρ x)) r rfl ⟨_, run, ?_⟩
        rw [hx.lit_inv]; exact .deep (.lit rfl)
      · cases hp
        exact .val0 (s := Instr.makeInterface t (ρ x)) r rfl ⟨_, run, .iface hx⟩
  | makeFunc f first cap =>
    simp only [plainOp] at hp
    cases hp
    refine .same r rfl (u := .func f (first.map ρ) (cap.map ρ)) (.fn (by simp) (by simp) (fun i c v hc hv => ?_) (fun i c v hc hv => ?_))
    · simp only [List.getElem?_map, Array.getElem?_toList, Array.getElem?_map] at hc hv
      cases hx : first[i]? with
      | none => rw [hx] at hc; cases hc
      | some x => rw [hx] at hc hv; cases hc; cases hv; exact hE x
    · simp only [List.getElem?_map, Array.getElem?_toList, Array.getElem?_map] at hc hv
      cases hx : cap[i]? with
      | none => rw [hx] at hc; cases hc
      | some x => rw [hx] at hc hv; cases hc; cases hv; exact hE x
  | makeSlice t l c =>
    simp only [plainOp] at hp
    exact .val (s := Instr.makeSlice t (ρ l) (ρ c)) rfl (makeSlice_run r (hE l) (hE c) hp)
  | slice t x lo hi mx =>
    simp only [plainOp] at hp
    obtain ⟨h1, rfl⟩ := keep_inv hp
    split at h1
    · rename_i z hz
      split at h1
      · rename_i ht
        cases h1
        exact .val0 (s := Instr.sliceAt t (ρ x) (lo.map ρ) (hi.map ρ) (mx.map ρ)) r rfl (fastCut_run (hE x) (optV_map hE lo) (optV_map hE hi) (optV_map hE mx) hz ht)
      · cases h1
    · split at h1
      · rename_i z hz
        cases h1
        exact .val0 (s := Instr.sliceAt t (ρ x) (lo.map ρ) (hi.map ρ) (mx.map ρ)) r rfl (cut_run (hE x) (optV_map hE lo) (optV_map hE hi) (optV_map hE mx) hz)
      · exact litOp_ok r hE (by simp) h1
  | fieldAddr s x f =>
    simp only [plainOp] at hp
    obtain ⟨h1, rfl⟩ := keep_inv hp
    exact .val0 (s := Instr.fieldAt s (ρ x) f) r rfl (fieldAddr_run (hE x) h1)
  | field t x f =>
    simp only [plainOp] at hp
    obtain ⟨h1, rfl⟩ := keep_inv hp
    exact .val0 (s := Instr.field t (ρ x) f) r rfl (field_run (hE x) h1)
  | indexAddr t x ix =>
    simp only [plainOp] at hp
    obtain ⟨h1, rfl⟩ := keep_inv hp
    exact .val0 (s := Instr.indexAt t (ρ x) (ρ ix)) r rfl (indexAddr_run (hE x) (hE ix) h1)
  | index t x ix =>
    simp only [plainOp] at hp
    obtain ⟨h1, rfl⟩ := keep_inv hp
    split at h1
    · rename_i z hz
      split at h1
      · rename_i ht
        cases h1
        exact .val0 (s := Instr.index t (ρ x) (ρ ix)) r rfl (fastIndex_run (hE x) (hE ix) hz ht)
      · cases h1
    · exact .val0 (s := Instr.index t (ρ x) (ρ ix)) r rfl (index_run (hE x) (hE ix) h1)
  | extract t i =>
    simp only [plainOp] at hp
    split at hp
    · rename_i vs he
      have hx := hE t
      rw [he] at hx
      obtain ⟨us, e1, hl, hh⟩ := hx.tup_inv
      obtain ⟨h1, rfl⟩ := keep_inv hp
      have hlt := lt_of_get h1
      have hu : us[i]? = some us[i] := Array.getElem?_eq_getElem (by omega)
      refine .val0 (s := Instr.extract (ρ t) i) r rfl ⟨us[i], ?_, hh i v _ h1 hu⟩
      rw [e1]
      simp only [Instr.extract, hu]; rfl
    · cases hp
  | makeMap t r0 =>
    cases r0 with
    | some x => simp [plainOp] at hp
    | none =>
      simp only [plainOp, Option.some.injEq, Prod.mk.injEq] at hp
      obtain ⟨rfl, rfl⟩ := hp
      exact .val (s := Instr.makeMap t none) rfl (makeMap_run r t)
  | lookup t x ix ok =>
    simp only [plainOp] at hp
    obtain ⟨h1, rfl⟩ := keep_inv hp
    exact .val0 (s := Instr.lookup t (ρ x) (ρ ix) ok) r rfl (lookup_run r (hE x) (hE ix) h1)
  | mapUpdate t m k x =>
    simp only [plainOp, Option.map_eq_some_iff, Prod.mk.injEq] at hp
    obtain ⟨hh, h1, rfl, rfl⟩ := hp
    obtain ⟨w', k1, k2, k3⟩ := mapSet_run r (hE m) (hE k) (hE x) h1
    refine ⟨.skip, undef, w', g, ?_, .inr ⟨rfl, rfl⟩, .deep (.lit rfl), k2, k3⟩
    show (do Instr.mapUpdate t (ρ m) (ρ k) (ρ x); pure .skip : Sem Next).run P w = _
    rw [Sem.run_bind, k1]; rfl
  | insert t m k x =>
    simp only [plainOp, Option.map_eq_some_iff, Prod.mk.injEq] at hp
    obtain ⟨hh, h1, rfl, rfl⟩ := hp
    obtain ⟨w', k1, k2, k3⟩ := mapSet_run r (hE m) (hE k) (hE x) h1
    refine ⟨.skip, undef, w', g, ?_, .inr ⟨rfl, rfl⟩, .deep (.lit rfl), k2, k3⟩
    show (do Instr.mapUpdate t (ρ m) (ρ k) (ρ x); pure .skip : Sem Next).run P w = _
    rw [Sem.run_bind, k1]; rfl
  | range t x =>
    simp only [plainOp] at hp
    split at hp
    · rename_i s ht hx
      simp only [Option.some.injEq, Prod.mk.injEq] at hp
      obtain ⟨rfl, rfl⟩ := hp
      have := hE x
      rw [hx] at this
      have := this.lit_inv
      refine .val (s := Instr.range t (ρ x)) rfl ?_
      rw [this]
      exact range_run r ht
    · rename_i kt et ht
      exact .val (s := Instr.range t (ρ x)) rfl (rangeM_run r ht (hE x) hp)
    · cases hp
  | next it b =>
    cases b with
    | false =>
      simp only [plainOp] at hp
      exact .val (s := Instr.next (ρ it) false ty) rfl (nextM_run r (hE it) hp ty)
    | true =>
      simp only [plainOp] at hp
      exact .val (s := Instr.next (ρ it) true ty) rfl (nextS_run r (hE it) hp ty)
  | entry it =>
    simp only [plainOp] at hp
    obtain ⟨h1, rfl⟩ := keep_inv hp
    exact .val0 (s := Instr.entry (ρ it)) r rfl (entryM_run r (hE it) h1)
  | mapEntry t m k =>
    simp only [plainOp] at hp
    exact .val (s := Instr.mapEntry t (ρ m) (ρ k)) rfl (mapEntry_run r (hE m) (hE k) hp)
  | entryStore t m s x =>
    simp only [plainOp, Option.map_eq_some_iff, Prod.mk.injEq] at hp
    obtain ⟨hh, h1, rfl, rfl⟩ := hp
    obtain ⟨w', k1, k2, k3⟩ := entryStore_run (P := P) r t (hE m) (hE s) (hE x) h1
    refine ⟨.skip, undef, w', g, ?_, .inr ⟨rfl, rfl⟩, .deep (.lit rfl), k2, k3⟩
    show (do Instr.entryStore t (ρ m) (ρ s) (ρ x); pure .skip : Sem Next).run P w = _
    rw [Sem.run_bind, k1]; rfl
  | typeAssert x xt a ok =>
    simp only [plainOp] at hp
    obtain ⟨h1, rfl⟩ := keep_inv hp
    exact .val0 (s := Instr.typeAssert (ρ x) xt a ok) r rfl (assertA_run (hE x) h1)
  | call c =>
    obtain ⟨callee, args, ats⟩ := c
    cases callee with
    | builtin b =>
      have lit : ∀ {z : Option AV}, z = litOp P e ⟨dst, .call ⟨.builtin b, args, ats⟩, ty, pos, after, guard⟩ → z.map (·, h) = some (v, h') → OpOk P ρ ⟨dst, .call ⟨.builtin b, args, ats⟩, ty, pos, after, guard⟩ g h w v h' := by
        intro z hz hk
        obtain ⟨h1, rfl⟩ := keep_inv hk
        exact litOp_ok r hE (by simp) (by rw [← hz]; exact h1)
      simp only [plainOp] at hp
      split at hp
      · rename_i s x sT xT ha ht
        rw [arr_two ha, arr_two ht]
        split at hp
        · rename_i hi
          exact .val (s := Builtin.append_ #[sT, xT] ty #[ρ s, ρ x]) (by rw [builtin_ex]; simp [builtin]) (appendN_run r hi (hE s) (hE x) hp)
        · exact .val (s := Builtin.append_ #[sT, xT] ty #[ρ s, ρ x]) (by rw [builtin_ex]; simp [builtin]) (append_run r (hE s) (hE x) hp)
      · rename_i d x dT rest ha ht
        rw [arr_two ha]
        refine .val (s := Builtin.copy_ ats ty #[ρ d, ρ x]) (by rw [builtin_ex]; simp [builtin]) (copy_run r (hE d) (hE x) hp ats ?_)
        rw [← Array.getElem?_toList, ht]; rfl
      · rename_i x t ha ht
        rw [arr_one ha, arr_one ht]
        exact .val (s := Builtin.clear_ #[t] ty #[ρ x]) (by rw [builtin_ex]; simp [builtin]) (clear_run r (hE x) hp)
      · rename_i x t ha ht
        rw [arr_one ha, arr_one ht]
        have hx := hE x
        split at hp
        · rename_i n d hn hd
          cases hp
          refine .val0 (s := Builtin.len_ #[t] ty #[ρ x]) r (by rw [builtin_ex]; simp [builtin]) ⟨goInt n, ?_, .deep (.lit rfl)⟩
          have : ∃ a c, ρ x = .slice a n c := by
            unfold lenOf at hn
            split at hn
            · rename_i he
              rw [he] at hx
              cases hn
              have hd' := hx.isl_inv
              generalize ρ x = y at hd'
              cases hd' with
              | isl u hc hff hss haa hok hh => exact ⟨_, _, rfl⟩
            · rename_i he
              rw [he] at hx
              cases hn
              obtain ⟨ad, cap, e1, _⟩ := hx.sl_inv
              exact ⟨_, _, e1⟩
            · cases hn
          obtain ⟨a, c, e1⟩ := this
          rw [e1]
          simp [Builtin.len_, run_underlying hd]
        · rename_i hd
          split at hp
          · rename_i s he
            cases hp
            rw [he] at hx
            have := hx.lit_inv
            refine .val0 (s := Builtin.len_ #[t] ty #[ρ x]) r (by rw [builtin_ex]; simp [builtin]) ⟨goInt s.data.toList.length, ?_, .deep (.lit rfl)⟩
            rw [this]
            have hsz : s.size = s.data.toList.length := by show s.data.size = _; rw [Array.length_toList]
            simp only [Builtin.len_]
            rw [← hsz]
            simp [run_underlying hd]
          · cases hp
        · rename_i hn hd
          obtain ⟨h1, rfl⟩ := keep_inv hp
          exact .val0 (s := Builtin.len_ #[t] ty #[ρ x]) r (by rw [builtin_ex]; simp [builtin]) (lenM_run r hd hx h1)
        · rw [← arr_one ha, ← arr_one ht]; exact lit rfl hp
      · rename_i x t ha ht
        rw [arr_one ha, arr_one ht]
        have hx := hE x
        split at hp
        · rename_i z l d he hd
          cases hp
          rw [he] at hx
          have hd' := hx.isl_inv
          have : ∃ a, ρ x = .slice a l.length l.length := by
            generalize ρ x = y at hd'
            cases hd' with
            | isl u hc hff hss haa hok hh => exact ⟨_, by rw [hff rfl]⟩
          obtain ⟨a, e1⟩ := this
          refine .val0 (s := Builtin.cap_ #[t] ty #[ρ x]) r (by rw [builtin_ex]; simp [builtin]) ⟨goInt l.length, ?_, .deep (.lit rfl)⟩
          rw [e1]
          simp [Builtin.cap_, run_underlying hd]
        · rename_i len d he hd
          cases hp
          rw [he] at hx
          obtain ⟨ad, cap, e1, _, _, hff, _⟩ := hx.sl_inv
          have := hff rfl
          subst this
          refine .val0 (s := Builtin.cap_ #[t] ty #[ρ x]) r (by rw [builtin_ex]; simp [builtin]) ⟨goInt cap, ?_, .deep (.lit rfl)⟩
          rw [e1]
          simp [Builtin.cap_, run_underlying hd]
        · rw [← arr_one ha, ← arr_one ht]; exact lit rfl hp
      · exact lit rfl hp
    | value f => simp [plainOp] at hp
    | invoke x m => simp [plainOp] at hp
  | _ => simp [plainOp] at hp

end Go.Am
