/- The machines that run the program, closed and with open leaves: what they answer is so. -/
import Derived.Test.YtaeadcgbahaofaaGreatDoorSc
section
namespace Go.Tw

/-! ## The machine's operations are the twin's -/

theorem guardO_some {α : Type} {b : Bool} {x : Option α} {y : α} (h : guardO b x = some y) : b = true ∧ x = some y := by
  cases b
  · simp [guardO] at h
  · exact ⟨rfl, h⟩

theorem natOf_some {y : D} {n : Nat} (h : natOf y = some n) : ∃ k, y = .int k (n : Int) := by
  unfold natOf at h
  split at h
  · cases h; exact ⟨_, rfl⟩
  · cases h

theorem cellsAt_some {H : Nat → Option Slot} {b : Nat} {cs : List D} (h : cellsAt H b = some cs) : H b = some (.cells cs) := by
  unfold cellsAt at h
  split at h
  · rename_i hb; cases h; exact hb
  · cases h

theorem mapAt_some {H : Nat → Option Slot} {b : Nat} {es : List (D × D)} (h : mapAt H b = some es) : H b = some (.map es) := by
  unfold mapAt at h
  split at h
  · rename_i hb; cases h; exact hb
  · cases h

theorem shapeB_ok {i : TInfo} {d : D} (h : shapeB i d = true) : shapeOK i d := by
  unfold shapeB at h
  unfold shapeOK
  cases hi : i.isAgg with
  | true =>
    rw [hi] at h
    simp only [cond_true, if_true] at h ⊢
    split at h
    · exact ⟨_, rfl, Nat.eq_of_beq_eq_true h⟩
    · cases h
  | false =>
    rw [hi] at h
    simpa using h

theorem blt_ok {a b : Nat} (h : Nat.blt a b = true) : a < b := by simpa [Nat.blt_eq] using h
theorem ble_ok {a b : Nat} (h : Nat.ble a b = true) : a ≤ b := Nat.le_of_ble_eq_true h
theorem beq_ok {a b : Nat} (h : Nat.beq a b = true) : a = b := Nat.eq_of_beq_eq_true h

section
variable {TI : TT} {nid : Nat} {ev : Operand → D} {H : Nat → Option Slot}

theorem loadF_ok {t : TypeId} {x v : D} {rh : List Rng} (h : loadF TI H t x = some (v, rh)) : loadI TI H t x v rh := by
  unfold loadF at h
  split at h
  · rename_i i hi
    refine ⟨i, hi, ?_⟩
    split at h
    · obtain ⟨h1, h2⟩ := guardO_some h
      cases h2
      exact ⟨rfl, rfl, shapeB_ok h1⟩
    · split at h
      · rename_i cs hb
        obtain ⟨h1, h2⟩ := guardO_some h
        split at h2
        · rename_i v' hv
          cases h2
          exact ⟨cs, cellsAt_some hb, blt_ok h1, hv, rfl⟩
        · cases h2
      · cases h
    · cases h
  · cases h

theorem liveF_ok {x v : D} {rh : List Rng} (h : liveF H x = some (v, rh)) : liveI H x v rh := by
  unfold liveF at h
  unfold liveI
  split at h
  · cases h; exact ⟨rfl, rfl⟩
  · cases h; exact ⟨rfl, rfl⟩
  · split at h
    · rename_i hb
      cases h
      exact ⟨_, cellsAt_some hb, by simp, rfl, rfl⟩
    · cases h
  · cases h

theorem fieldAddrF_ok {t : TypeId} {f : Nat} {x v : D} {rh : List Rng} (h : fieldAddrF TI H t f x = some (v, rh)) : fieldAddrI TI H t f x v rh := by
  unfold fieldAddrF at h
  split at h
  · rename_i hi
    split at h
    · rename_i fl hfl
      split at h
      · rename_i fi hfi
        obtain ⟨h1, h2⟩ := guardO_some h
        refine ⟨_, _, fl, fi, hi, rfl, hfl, hfi, fun e => by rw [e] at h1; simp at h1, ?_⟩
        split at h2
        · split at h2
          · rename_i d hd
            obtain ⟨h3, h4⟩ := guardO_some h2
            cases h4
            exact ⟨d, hd, by simpa using h3, rfl, rfl⟩
          · cases h2
        · split at h2
          · rename_i hb
            cases h2
            exact ⟨_, cellsAt_some hb, by simp, rfl, rfl⟩
          · cases h2
        · cases h2
      · cases h
    · cases h
  · cases h

theorem indexAddrF_ok {t : TypeId} {x y v : D} {rh : List Rng} (h : indexAddrF TI H t x y = some (v, rh)) : indexAddrI TI H t x y v rh := by
  unfold indexAddrF at h
  split at h
  · rename_i i hi
    split at h
    · rename_i n hn
      obtain ⟨k, rfl⟩ := natOf_some hn
      refine ⟨i, k, n, hi, rfl, by omega, ?_⟩
      split at h
      · split at h
        · rename_i e he
          rw [he]
          split at h
          · rename_i ie hie
            obtain ⟨h1, h2⟩ := guardO_some h
            simp only [Bool.and_eq_true] at h1
            split at h2
            · rename_i d hd
              cases h2
              exact ⟨ie, d, hie, beq_ok h1.1, blt_ok h1.2, by simpa using hd, rfl, rfl⟩
            · cases h2
          · cases h
        · cases h
      · split at h
        · rename_i e he
          rw [he]
          split at h
          · rename_i ie hie
            split at h
            · rename_i hb
              obtain ⟨h1, h2⟩ := guardO_some h
              simp only [Bool.and_eq_true] at h1
              cases h2
              exact ⟨ie, _, hie, beq_ok h1.1, cellsAt_some hb, by simp, by have := blt_ok h1.2; omega, by simp, rfl⟩
            · cases h
          · cases h
        · cases h
      · split at h
        · rename_i e he
          rw [he]
          split at h
          · rename_i ie hie
            split at h
            · rename_i hb
              obtain ⟨h1, h2⟩ := guardO_some h
              cases h2
              exact ⟨ie, _, hie, cellsAt_some hb, by simp, by have := blt_ok h1; omega, by simp, rfl⟩
            · cases h
          · cases h
        · cases h
      · split at h
        · rename_i e he
          rw [he]
          split at h
          · rename_i ie hie
            obtain ⟨h1, h2⟩ := guardO_some h
            simp only [Bool.and_eq_true] at h1
            split at h2
            · rename_i d hd
              obtain ⟨h3, h4⟩ := guardO_some h2
              cases h4
              exact ⟨ie, d, hie, fun e => by rw [e] at h1; simp at h1, by have := blt_ok h1.2; omega, by simpa using hd, by simpa using h3, rfl, rfl⟩
            · cases h2
          · cases h
        · cases h
      · cases h
    · cases h
  · cases h

theorem indexF_ok {t : TypeId} {x y v : D} (h : indexF TI t x y = some v) : indexI TI t x y v := by
  unfold indexF at h
  split at h
  · rename_i i hi
    split at h
    · rename_i n hn
      obtain ⟨k, rfl⟩ := natOf_some hn
      refine ⟨i, k, n, hi, rfl, by omega, ?_⟩
      split at h
      · split at h
        · rename_i he
          rw [he]
          split at h
          · rename_i c hc
            cases h
            exact ⟨c, by simpa using hc, rfl⟩
          · cases h
        · cases h
      · split at h
        · rename_i len e he
          rw [he]
          split at h
          · rename_i ie hie
            obtain ⟨h1, h2⟩ := guardO_some h
            exact ⟨ie, hie, by have := blt_ok h1; omega, by simpa using h2⟩
          · cases h
        · cases h
      · cases h
    · cases h
  · cases h

theorem offF_ok {y : Option D} {d r : Nat} (h : offF y d = some r) : offI y d r := by
  unfold offF at h
  split at h
  · cases h; rfl
  · rename_i y
    obtain ⟨k, rfl⟩ := natOf_some h
    exact ⟨k, r, rfl, by omega, by simp⟩

theorem sliceF_ok {t : TypeId} {x v : D} {lo hi mx : Option D} {rh : List Rng} (h : sliceF TI H t x lo hi mx = some (v, rh)) : sliceI TI H t x lo hi mx v rh := by
  unfold sliceF at h
  split at h
  · cases h
  split at h
  · rename_i i hi'
    split at h
    · rename_i l hl
      split at h
      · split at h
        · rename_i he
          split at h
          · rename_i hh hhh
            obtain ⟨h1, h2⟩ := guardO_some h
            simp only [Bool.and_eq_true] at h1
            cases h2
            exact ⟨i, l, hh, hi', offF_ok hl, ble_ok h1.1, by rw [he]; exact ⟨rfl, offF_ok hhh, ble_ok h1.2, rfl, rfl⟩⟩
          · cases h
        · cases h
      · split at h
        · rename_i e he
          split at h
          · rename_i ie hie
            split at h
            · rename_i hh hhh
              obtain ⟨h1, h2⟩ := guardO_some h
              simp only [Bool.and_eq_true] at h1
              cases h2
              exact ⟨i, l, hh, hi', offF_ok hl, ble_ok h1.1.2, by rw [he]; exact ⟨rfl, offF_ok hhh, ble_ok h1.2, ⟨ie, hie, beq_ok h1.1.1⟩, rfl, rfl⟩⟩
            · cases h
          · cases h
        · cases h
      · split at h
        · rename_i e he
          split at h
          · rename_i ie hie
            split at h
            · rename_i hh hhh
              split at h
              · rename_i cs hb
                obtain ⟨h1, h2⟩ := guardO_some h
                simp only [Bool.and_eq_true, Bool.or_eq_true] at h1
                cases h2
                exact ⟨i, l, hh, hi', offF_ok hl, ble_ok h1.1.1.2, by rw [he]; exact ⟨rfl, offF_ok hhh, ble_ok h1.1.2, ⟨ie, hie, beq_ok h1.1.1.1⟩, ⟨cs, cellsAt_some hb⟩, h1.2.imp beq_ok blt_ok, rfl, rfl⟩⟩
              · cases h
            · cases h
          · cases h
        · cases h
      · split at h
        · rename_i e he
          split at h
          · rename_i ie hie
            split at h
            · rename_i hh hhh
              obtain ⟨h1, h2⟩ := guardO_some h
              simp only [Bool.and_eq_true] at h1
              cases h2
              have := beq_ok h1.1
              have h3 := beq_ok h1.2
              exact ⟨i, l, hh, hi', offF_ok hl, by omega, by rw [he]; exact ⟨rfl, offF_ok hhh, h3, ⟨ie, hie⟩, rfl, rfl⟩⟩
            · cases h
          · cases h
        · cases h
      · cases h
    · cases h
  · cases h

theorem lenF_ok {x v : D} {d : TypeDesc} {rh : List Rng} (h : lenF H x d = some (v, rh)) : lenI H x v rh ∧ lenT x d := by
  unfold lenF at h
  split at h
  · split at h
    · cases h; exact ⟨⟨rfl, rfl⟩, trivial⟩
    · cases h
  · split at h
    · cases h; exact ⟨⟨rfl, rfl⟩, trivial⟩
    · cases h
  · split at h
    · cases h; exact ⟨⟨rfl, rfl⟩, trivial⟩
    · cases h
  · split at h
    · split at h
      · rename_i cs hb
        cases h; exact ⟨⟨cs, cellsAt_some hb, rfl, rfl⟩, trivial⟩
      · cases h
    · cases h
  · cases h

theorem lookupF_ok {t : TypeId} {x k v : D} {ok : Bool} {rh : List Rng} (h : lookupF TI H t x k ok = some (v, rh)) : lookupI TI H t x k ok v rh := by
  unfold lookupF at h
  split at h
  · rename_i ke el _ hi
    split at h
    · rename_i ike hike
      split at h
      · rename_i iel hiel
        obtain ⟨h1, h2⟩ := guardO_some h
        refine ⟨_, ke, el, ike, iel, hi, rfl, hike, h1, hiel, ?_⟩
        split at h2
        · split at h2
          · rename_i es hb
            split at h2
            · rename_i r hr
              cases h2
              exact ⟨es, r, mapAt_some hb, hr, rfl, by cases ok <;> rfl⟩
            · cases h2
          · cases h2
        · cases h2
          exact ⟨rfl, by cases ok <;> rfl⟩
        · cases h2
      · cases h
    · cases h
  · cases h

theorem storeF_ok {t : TypeId} {x y : D} {e : Eff} (h : storeF TI H t x y = some e) : storeI TI H t x y e.hw e.rh e.wh ∧ e.v = .undef := by
  unfold storeF at h
  split at h
  · rename_i i hi
    split at h
    · split at h
      · rename_i cs hcs
        split at h
        · rename_i old hb
          obtain ⟨h1, h2⟩ := guardO_some h
          simp only [Bool.and_eq_true, List.all_eq_true] at h1
          cases h2
          exact ⟨⟨i, _, _, cs, old, hi, rfl, hcs, beq_ok h1.1.1.1, blt_ok h1.1.1.2, h1.1.2, cellsAt_some hb, ble_ok h1.2, rfl, rfl, rfl⟩, rfl⟩
        · cases h
      · cases h
    · cases h
  · cases h

theorem mapUpdateF_ok {t : TypeId} {x k y : D} {e : Eff} (h : mapUpdateF TI H t x k y = some e) : mapUpdateI TI H t x k y e.hw e.rh e.wh ∧ e.v = .undef := by
  unfold mapUpdateF at h
  split at h
  · rename_i ke el _ hi
    split at h
    · rename_i ike hike
      split at h
      · split at h
        · rename_i es hb
          obtain ⟨h1, h2⟩ := guardO_some h
          split at h2
          · rename_i r hr
            cases h2
            exact ⟨⟨_, ke, el, ike, _, es, r, hi, rfl, hike, h1, rfl, mapAt_some hb, hr, rfl, rfl, rfl⟩, rfl⟩
          · cases h2
        · cases h
      · cases h
    · cases h
  · cases h

theorem srcF_ok {sz : Nat} {x : D} {m : Nat} {cs : List D} {rh : List Rng} (h : srcF H sz x = some (m, cs, rh)) : srcI H sz x m cs rh := by
  unfold srcF at h
  split at h
  · cases h; exact ⟨rfl, rfl, rfl⟩
  · obtain ⟨h1, h2⟩ := guardO_some h
    cases h2
    simp only [Bool.or_eq_true, List.isEmpty_iff] at h1
    exact ⟨rfl, h1.imp id beq_ok, rfl, rfl⟩
  · split at h
    · rename_i all hb
      obtain ⟨h1, h2⟩ := guardO_some h
      simp only [Bool.and_eq_true, List.all_eq_true] at h1
      cases h2
      exact ⟨all, cellsAt_some hb, beq_ok h1.1.1, rfl, ble_ok h1.1.2, rfl, h1.2, rfl⟩
    · cases h
  · obtain ⟨h1, h2⟩ := guardO_some h
    cases h2
    exact ⟨beq_ok h1, rfl, rfl, rfl⟩
  · cases h

theorem appendF_ok {t t2 : TypeId} {s x : D} {e : Eff} (h : appendF TI nid H t t2 s x = some e) : appendI TI nid H t t2 s x e.v e.hw e.rh e.wh := by
  unfold appendF at h
  split at h
  · rename_i el _ hi
    split at h
    · rename_i i2 hi2
      split at h
      · rename_i ie hie
        split at h
        · rename_i m cs rh hsrc
          obtain ⟨h1, h2⟩ := guardO_some h
          simp only [Bool.and_eq_true] at h1
          refine ⟨_, el, i2, ie, m, cs, rh, hi, rfl, hi2, h1.1, hie, blt_ok h1.2, srcF_ok hsrc, ?_⟩
          split at h2
          · obtain ⟨h3, h4⟩ := guardO_some h2
            cases h4
            exact ⟨ble_ok h3, rfl, rfl, rfl, rfl⟩
          · split at h2
            · rename_i old hb
              obtain ⟨h3, h4⟩ := guardO_some h2
              simp only [Bool.and_eq_true] at h3
              cases h4
              exact ⟨old, beq_ok h3.1.1.1, beq_ok h3.1.1.2, cellsAt_some hb, ble_ok h3.1.2, ble_ok h3.2, rfl, rfl, rfl, rfl⟩
            · cases h2
          · cases h2
        · cases h
      · cases h
    · cases h
  · cases h

theorem makeSliceF_ok {t : TypeId} {x y : D} {e : Eff} (h : makeSliceF TI nid t x y = some e) : makeSliceI TI nid t x y e.v e.hw e.wh ∧ e.rh = [] := by
  unfold makeSliceF at h
  split at h
  · rename_i el _ hi
    split at h
    · rename_i ie hie
      split at h
      · rename_i zc hzc
        split at h
        · rename_i n hn
          split at h
          · rename_i n' hn'
            obtain ⟨h1, h2⟩ := guardO_some h
            simp only [Bool.and_eq_true] at h1
            cases h2
            obtain ⟨k, rfl⟩ := natOf_some hn
            obtain ⟨k', rfl⟩ := natOf_some hn'
            have := beq_ok h1.1.1
            subst this
            exact ⟨⟨_, el, ie, zc, k, k', n, hi, rfl, hie, hzc, rfl, rfl, ble_ok h1.1.2, blt_ok h1.2, rfl, rfl, rfl⟩, rfl⟩
          · cases h
        · cases h
      · cases h
    · cases h
  · cases h

theorem bytesOf_ok : ∀ {ds : List D} {l : List UInt8}, bytesOf ds = some l → ds = byteD l
  | [], l, h => by simp only [bytesOf, Option.some.injEq] at h; subst h; rfl
  | d :: ds, l, h => by
    unfold bytesOf at h
    split at h
    · rename_i e; cases e
    · rename_i n ds' e
      cases e
      split at h
      · rename_i l' hl
        obtain ⟨h1, h2⟩ := guardO_some h
        cases h2
        have := bytesOf_ok hl
        simp only [byteD, List.map_cons]
        rw [this]
        have hn := blt_ok h1
        simp [byteD, Nat.toUInt8, UInt8.toNat_ofNat', Nat.mod_eq_of_lt hn]
      · cases h
    · cases h

theorem convertF_ok {s d : TypeId} {x v : D} {rh : List Rng} (h : convertF TI H s d x = some (v, rh)) : convertI TI H s d x v rh := by
  unfold convertF at h
  split at h
  · rename_i i hi
    split at h
    · rename_i j hj
      refine ⟨i, j, hi, hj, ?_⟩
      split at h
      · split at h
        · rename_i k hk
          rw [hk]; cases h; exact ⟨rfl, rfl⟩
        · cases h
      · split at h
        · rename_i hk
          rw [hk]; cases h; exact ⟨rfl, rfl⟩
        · rename_i e hk
          rw [hk]
          split at h
          · rename_i hie
            cases h
            exact ⟨⟨_, hie, rfl⟩, rfl, rfl⟩
          · cases h
        · cases h
      · split at h
        · rename_i hk
          rw [hk]
          split at h
          · rename_i e he
            split at h
            · rename_i hie
              cases h
              exact ⟨⟨e, _, he, hie, rfl⟩, rfl, rfl⟩
            · cases h
          · cases h
        · cases h
      · split at h
        · rename_i hk
          rw [hk]
          split at h
          · rename_i e he
            split at h
            · rename_i hie
              split at h
              · rename_i cs hb
                split at h
                · rename_i l hl
                  obtain ⟨h1, h2⟩ := guardO_some h
                  simp only [Bool.and_eq_true] at h1
                  cases h2
                  exact ⟨e, _, cs, l, he, hie, rfl, beq_ok h1.1, cellsAt_some hb, beq_ok h1.2, bytesOf_ok hl, rfl, rfl⟩
                · cases h
              · cases h
            · cases h
          · cases h
        · cases h
      · cases h
    · cases h
  · cases h

theorem buildF_ok {t : TypeId} {parts : Array (Nat × Operand)} {v : D} (h : buildF TI ev t parts = some v) : buildI TI ev t parts v := by
  unfold buildF at h
  split at h
  · rename_i i hi
    split at h
    · rename_i zc hzc
      split at h
      · rename_i fs hfs
        split at h
        · rename_i pl hpl
          split at h
          · rename_i cs hcs
            cases h
            exact ⟨i, zc, cs, hi, hzc, rfl, .inl ⟨fs, pl, hfs, hpl, hcs⟩⟩
          · cases h
        · cases h
      · rename_i n e he
        split at h
        · rename_i ie hie
          split at h
          · rename_i cs hcs
            cases h
            exact ⟨i, zc, cs, hi, hzc, rfl, .inr ⟨n, e, ie, he, hie, hcs⟩⟩
          · cases h
        · cases h
      · cases h
    · cases h
  · cases h

theorem buildSliceF_ok {t : TypeId} {n : Nat} {parts : Array (Nat × Operand)} {e : Eff} (h : buildSliceF TI nid ev t n parts = some e) :
    (∃ cs, buildSliceI TI nid ev t n parts e.v cs ∧ e.hw = [.set nid (some (.cells cs))]) ∧ e.rh = [] ∧ e.wh = [.all nid] := by
  unfold buildSliceF at h
  split at h
  · rename_i el _ hi
    split at h
    · rename_i ie hie
      split at h
      · rename_i zc hzc
        obtain ⟨h1, h2⟩ := guardO_some h
        simp only [Bool.and_eq_true] at h1
        split at h2
        · rename_i cs hcs
          unfold newE at h2
          cases h2
          exact ⟨⟨cs, ⟨_, el, ie, zc, hi, rfl, hie, hzc, ble_ok h1.1, ble_ok h1.2, hcs, rfl⟩, rfl⟩, rfl, rfl⟩
        · cases h2
      · cases h
    · cases h
  · cases h

theorem fieldF_ok {t : TypeId} {f : Nat} {x v : D} (h : fieldF TI t f x = some v) : ∃ i fs fl fi cs, TI t = some i ∧ i.desc = .struct fs ∧ fs[f]? = some fl ∧ TI fl.type = some fi ∧ x = .agg cs ∧ partD fi cs fl.offset = some v := by
  unfold fieldF at h
  split at h
  · rename_i hi
    split at h
    · rename_i fl hfl
      split at h
      · rename_i fi hfi
        split at h
        · exact ⟨_, _, fl, fi, _, hi, rfl, hfl, hfi, rfl, h⟩
        · cases h
      · cases h
    · cases h
  · cases h

theorem kindI_some {k k' : IntKind} {v u : D} (h : kindI k k' v = some u) : k = k' ∧ u = v := by
  unfold kindI at h
  cases hk : decide (k = k') with
  | true => rw [hk] at h; simp only [cond_true, Option.some.injEq] at h; exact ⟨of_decide_eq_true hk, h.symm⟩
  | false => rw [hk] at h; simp at h

theorem binF_ok {op : BinOp} {ty : TypeId} {yo : Operand} {x y v : D} (h : binF TI op ty yo x y = some v) : binV TI op ty yo x y v := by
  unfold binF at h
  split at h
  · split at h
    · simp only [binV]
      split at h
      · obtain ⟨h1, h2⟩ := guardO_some h; cases h2; exact ⟨of_decide_eq_true h1, rfl⟩
      · obtain ⟨h1, h2⟩ := guardO_some h; cases h2; exact ⟨of_decide_eq_true h1, rfl⟩
      · exact kindI_some h
      · exact kindI_some h
      · exact kindI_some h
      · obtain ⟨h1, h2⟩ := guardO_some h
        obtain ⟨h3, h4⟩ := kindI_some h2
        exact ⟨h3, by simpa using h1, h4⟩
      · obtain ⟨h1, h2⟩ := guardO_some h
        obtain ⟨h3, h4⟩ := kindI_some h2
        exact ⟨h3, by simpa using h1, h4⟩
      all_goals exact kindI_some h
    · cases h
  · split at h
    · simp only [binV]
      split at h
      · obtain ⟨h1, h2⟩ := guardO_some h; cases h2; exact ⟨ble_ok h1, rfl⟩
      · cases h; rfl
      · cases h; rfl
      · cases h
    · cases h
  · split at h
    · simp only [binV]
      split at h
      · rename_i hi
        refine ⟨⟨_, hi, rfl⟩, ?_⟩
        split at h
        · cases h; rfl
        · cases h; rfl
        · cases h
      · cases h
    · cases h
  · split at h
    · simp only [binV]
      split at h
      · rename_i hi
        split at h
        · refine ⟨⟨_, _, hi, rfl⟩, ⟨_, rfl⟩, ?_⟩
          split at h
          · cases h; rfl
          · cases h; rfl
          · cases h
        · cases h
      · cases h
    · cases h
  · split at h
    · simp only [binV]
      split at h
      · rename_i hi
        split at h
        · rename_i r hr
          refine ⟨_, _, r, hi, rfl, rfl, hr, ?_⟩
          split at h
          · cases h; rfl
          · cases h; rfl
          · cases h
        · cases h
      · cases h
    · cases h
  · cases h

theorem nilCmpF_ok {op : BinOp} {ty : TypeId} {yo : Operand} {x v : D} {rh : List Rng} (h : nilCmpF TI H op ty yo x = some (v, rh)) : nilCmpI TI H op ty yo x .nsl v rh := by
  unfold nilCmpF at h
  split at h
  · rename_i hi
    split at h
    · rename_i q
      split at h
      · rename_i r rh' hr
        have hrh : rh = rh' := by
          split at h
          · cases h; rfl
          · cases h; rfl
          · cases h
        subst hrh
        refine ⟨_, _, q, r, hi, rfl, rfl, rfl, ?_, ?_⟩
        · split at hr
          · cases hr; exact ⟨rfl, rfl⟩
          · split at hr
            · rename_i hb
              cases hr
              exact ⟨rfl, ⟨_, cellsAt_some hb, by simp⟩, rfl⟩
            · cases hr
          · cases hr
        · split at h
          · cases h; rfl
          · cases h; rfl
          · cases h
      · cases h
    · cases h
  · cases h

theorem unF_ok {op : UnOp} {x v : D} (h : unF op x = some v) : unI op x v := by
  unfold unF at h
  unfold unI
  split at h
  · split at h
    · cases h; rfl
    · cases h
  · split at h
    · cases h; rfl
    · cases h
  · split at h
    · cases h; rfl
    · cases h
  · cases h

theorem pureE_ok {v : Option D} {e : Eff} (h : pureE v = some e) : v = some e.v ∧ e.hw = [] ∧ e.rh = [] ∧ e.wh = [] := by
  unfold pureE at h
  split at h
  · cases h; exact ⟨rfl, rfl, rfl, rfl⟩
  · cases h

theorem readE_ok {v : Option (D × List Rng)} {e : Eff} (h : readE v = some e) : v = some (e.v, e.rh) ∧ e.hw = [] ∧ e.wh = [] := by
  unfold readE at h
  split at h
  · cases h; exact ⟨rfl, rfl, rfl⟩
  · cases h

theorem opF_ok {op : Op} {e : Eff} (h : opF TI nid ev H op = some e) : opI TI nid ev H op e.v e.hw e.rh e.wh := by
  cases op <;> simp only [opF] at h <;> (try (cases h; done))
  case move x => obtain ⟨h1, h2, h3, h4⟩ := pureE_ok h; exact ⟨(Option.some.inj h1).symm, h2, h3, h4⟩
  case assign x => obtain ⟨h1, h2, h3, h4⟩ := pureE_ok h; exact ⟨(Option.some.inj h1).symm, h2, h3, h4⟩
  case pick c x y =>
    split at h
    · rename_i b hb
      obtain ⟨h1, h2, h3, h4⟩ := pureE_ok h
      refine ⟨b, hb, ?_, h2, h3, h4⟩
      simp only [Option.some.injEq] at h1
      rw [← h1]; cases b <;> rfl
    · cases h
  case alloc t =>
    split at h
    · rename_i i hi
      split at h
      · rename_i cs hcs
        unfold newE at h; cases h
        exact ⟨⟨i, cs, hi, hcs, rfl, rfl⟩, rfl, rfl⟩
      · cases h
    · cases h
  case box t x =>
    split at h
    · rename_i cs hcs
      unfold newE at h; cases h
      exact ⟨⟨cs, hcs, rfl, rfl⟩, rfl, rfl⟩
    · cases h
  case build t parts => obtain ⟨h1, h2, h3, h4⟩ := pureE_ok h; exact ⟨buildF_ok h1, h2, h3, h4⟩
  case buildSlice t n parts => exact buildSliceF_ok h
  case insert t x k y => exact mapUpdateF_ok h
  case mapUpdate t x k y => exact mapUpdateF_ok h
  case load t x => obtain ⟨h1, h2, h3⟩ := readE_ok h; exact ⟨loadF_ok h1, h2, h3⟩
  case store t x y => exact storeF_ok h
  case nilCheck x => obtain ⟨h1, h2, h3⟩ := readE_ok h; exact ⟨liveF_ok h1, h2, h3⟩
  case binOp op ty x y ty' =>
    split at h
    · rename_i hy
      obtain ⟨h1, h2, h3⟩ := readE_ok h
      refine ⟨.inr ?_, h2, h3⟩
      rw [hy]; exact nilCmpF_ok h1
    · obtain ⟨h1, h2, h3, h4⟩ := pureE_ok h
      exact ⟨.inl ⟨binF_ok h1, h3⟩, h2, h4⟩
  case unOp op ty x => obtain ⟨h1, h2, h3, h4⟩ := pureE_ok h; exact ⟨unF_ok h1, h2, h3, h4⟩
  case convert s d x => obtain ⟨h1, h2, h3⟩ := readE_ok h; exact ⟨convertF_ok h1, h2, h3⟩
  case makeInterface t x =>
    split at h
    · cases h
    · rename_i i hne hi
      obtain ⟨h1, h2, h3, h4⟩ := pureE_ok h
      refine ⟨⟨i, hi, ?_⟩, (Option.some.inj h1).symm, h2, h3, h4⟩
      obtain ⟨sz, by_, z, d, eq⟩ := i
      cases d <;> first | trivial | exact (hne _ _ _ _ _ rfl).elim
    · cases h
  case makeFunc f first cap =>
    cases f <;> simp only at h <;> (try (cases h; done))
    obtain ⟨h0, h⟩ := guardO_some h
    obtain ⟨h1, h2, h3, h4⟩ := pureE_ok h
    exact ⟨by simpa [List.isEmpty_iff] using h0, (Option.some.inj h1).symm, h2, h3, h4⟩
  case makeMap t r =>
    split at h
    · unfold newE at h; cases h
      exact ⟨rfl, rfl, rfl, rfl, rfl⟩
    · cases h
  case makeSlice t x y => exact makeSliceF_ok h
  case slice t x lo hi mx => obtain ⟨h1, h2, h3⟩ := readE_ok h; exact ⟨sliceF_ok h1, h2, h3⟩
  case fieldAddr t x f => obtain ⟨h1, h2, h3⟩ := readE_ok h; exact ⟨fieldAddrF_ok h1, h2, h3⟩
  case field t x f => obtain ⟨h1, h2, h3, h4⟩ := pureE_ok h; exact ⟨fieldF_ok h1, h2, h3, h4⟩
  case indexAddr t x y => obtain ⟨h1, h2, h3⟩ := readE_ok h; exact ⟨indexAddrF_ok h1, h2, h3⟩
  case index t x y => obtain ⟨h1, h2, h3, h4⟩ := pureE_ok h; exact ⟨indexF_ok h1, h2, h3, h4⟩
  case lookup t x k ok => obtain ⟨h1, h2, h3⟩ := readE_ok h; exact ⟨lookupF_ok h1, h2, h3⟩
  case extract x j =>
    split at h
    · rename_i cs hcs
      obtain ⟨h1, h2, h3, h4⟩ := pureE_ok h
      exact ⟨⟨cs, hcs, h1⟩, h2, h3, h4⟩
    · cases h
  case call c =>
    obtain ⟨callee, args, ts⟩ := c
    cases callee with
    | value f => cases h
    | invoke r m => cases h
    | builtin b =>
      simp only [builtinF] at h
      cases b <;> simp only at h <;> (try (cases h; done))
      case len =>
        split at h
        · rename_i x t ha ht
          split at h
          · rename_i i hi
            obtain ⟨h1, h2, h3⟩ := readE_ok h
            obtain ⟨h4, h5⟩ := lenF_ok h1
            simp only [opI, ha, ht]
            exact ⟨h4, ⟨i, hi, h5⟩, h2, h3⟩
          · cases h
        · cases h
      case append =>
        split at h
        · rename_i s x t t2 ha ht
          simp only [opI, ha, ht]
          exact appendF_ok h
        · cases h
      case min =>
        split at h
        · rename_i x y ha
          split at h
          · rename_i k a k' b hx hy
            obtain ⟨h1, h2, h3, h4⟩ := pureE_ok h
            simp only [opI, ha]
            simp only [Option.some.injEq] at h1
            exact ⟨⟨k, a, k', b, hx, hy, h1.symm⟩, h2, h3, h4⟩
          · cases h
        · cases h
      case max =>
        split at h
        · rename_i x y ha
          split at h
          · rename_i k a k' b hx hy
            obtain ⟨h1, h2, h3, h4⟩ := pureE_ok h
            simp only [opI, ha]
            simp only [Option.some.injEq] at h1
            exact ⟨⟨k, a, k', b, hx, hy, h1.symm⟩, h2, h3, h4⟩
          · cases h
        · cases h

end

end Go.Tw
end
