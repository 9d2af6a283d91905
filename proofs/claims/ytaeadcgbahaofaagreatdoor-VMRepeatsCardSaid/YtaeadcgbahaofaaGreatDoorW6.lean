/- VMRepeats: runs of the program that are parts of its walk. -/
import Derived.Test.YtaeadcgbahaofaaGreatDoorW5
section
open Go Go.Tw Go.Proofs
set_option maxRecDepth 100000
theorem okE (a b c d : Int) (s : List UInt8) : okA [.int .i64, .int .i64, .int .i64, .int .i64, .str] (.agg [I a, I b, I c, I d, .str s]) = true := rfl
theorem chk_ok {ne : Nat} {p q : List D} {i : Nat} {b x2 : Int} {x y : Option Bool} (hp : p.length = i * 5) (hi : i < ne) (hb : x2 = b) :
    chkR ne (p ++ ([I 15, I 0, I x2, I 0, .str []] ++ q)) (i : Int) b x y = y := by
  have he : elR (p ++ ([I 15, I 0, I x2, I 0, .str []] ++ q)) (i : Int) = .agg [I 15, I 0, I x2, I 0, .str []] := by
    unfold elR
    rw [show 0 + (i : Int).toNat * 5 = p.length by rw [hp]; simp]
    simp
  have h1 : decide (0 ≤ (i : Int)) = true := by simp
  have h2 : Nat.blt (i : Int).toNat ne = true := by simp [Nat.blt_eq, hi]
  have h3 : nonB (p ++ ([I 15, I 0, I x2, I 0, .str []] ++ q)) = true := by
    cases p <;> rfl
  have h4 : Nat.ble (0 + (i : Int).toNat * 5 + 5) (p ++ ([I 15, I 0, I x2, I 0, .str []] ++ q)).length = true := by simp [hp]
  have h5 : eqR (p ++ ([I 15, I 0, I x2, I 0, .str []] ++ q)) (i : Int) b = true := by
    unfold _root_.eqR
    rw [he, hb]
    simp [D.at, D.cellsV, I, D.intV, D.strV]
  unfold chkR
  rw [h1, h2, h3, h4, he, okE, h5]
  rfl
theorem loopR_rest : ∀ (r : Nat) {f ne i : Nat} {p : List D} {k : Int}, p.length = i * 5 → 0 < i → ne = i + r → ne < 1000 → r < f → loopR f ne (p ++ effZ r) (i : Int) k = some true
  | 0, f, ne, i, p, k, hp, h0, hn, hb, hf => by
    obtain ⟨f, rfl⟩ : ∃ g, f = g + 1 := ⟨f - 1, by omega⟩
    have : decide ((i : Int) < (ne : Int)) = false := by simp; omega
    simp only [loopR, this, cond_false]
  | r + 1, f, ne, i, p, k, hp, h0, hn, hb, hf => by
    obtain ⟨f, rfl⟩ : ∃ g, f = g + 1 := ⟨f - 1, by omega⟩
    have h1 : decide ((i : Int) < (ne : Int)) = true := by simp; omega
    have h2 : ((i : Int) == 0) = false := by simp; omega
    simp only [loopR, h1, h2, cond_true, cond_false, effZ]
    rw [chk_ok hp (by omega) rfl, w64_in (by omega)]
    have := loopR_rest r (f := f) (ne := ne) (i := i + 1) (p := p ++ [I 15, I 0, I 0, I 0, .str []]) (k := k) (by simp [hp]; omega) (by omega) (by omega) hb (by omega)
    simpa using this
theorem loopR_all {k : Int} (h2 : k < 100) : loopR 300 k.toNat (effR k) 0 k = some true := by
  by_cases hk : 0 < k
  · have hd : decide (0 < k) = true := by simpa using hk
    have h1 : decide ((0 : Int) < (k.toNat : Int)) = true := by simp; omega
    simp only [loopR, h1, cond_true, effR, hd]
    have := chk_ok (ne := k.toNat) (p := []) (q := effZ (k.toNat - 1)) (i := 0) (b := k) (x2 := k) (x := some false) (y := loopR 299 k.toNat ([I 15, I 0, I k, I 0, .str []] ++ effZ (k.toNat - 1)) (w64 (0 + 1)) k) rfl (by omega) rfl
    show chkR k.toNat ([] ++ ([I 15, I 0, I k, I 0, .str []] ++ effZ (k.toNat - 1))) ((0 : Nat) : Int) k (some false) (loopR 299 k.toNat ([I 15, I 0, I k, I 0, .str []] ++ effZ (k.toNat - 1)) (w64 (0 + 1)) k) = some true
    rw [this, w64_in (by omega)]
    exact loopR_rest (k.toNat - 1) (f := 299) (ne := k.toNat) (i := 1) (p := [I 15, I 0, I k, I 0, .str []]) rfl (by omega) (by omega) (by omega) (by omega)
  · have h1 : decide ((0 : Int) < (k.toNat : Int)) = false := by simp; omega
    simp only [loopR, h1, cond_false]
theorem gR_true {k : Int} (h1 : -100 < k) (h2 : k < 100) : gR k = some true := by
  obtain ⟨st', n', h⟩ := repeats h1 h2
  have d1 : decide (k < -2147483647) = false := by simp; omega
  have d2 : decide (k > 2147483647) = false := by simp; omega
  unfold gR
  rw [d1, d2, h]
  simp only [cond_false, Option.bind_some]
  have hl : lastR (stt (varR k) 8 0 st' k.toNat (effR k) true) k = some true := by
    unfold lastR
    show (loopR 300 k.toNat (effR k) 0 k).bind _ = _
    rw [loopR_all h2]; rfl
  have e1 : decide (((k.toNat : Nat) : Int) > 256) = false := by simp; omega
  have e2 : (((k.toNat : Nat) : Int) != (if k > 0 then k else 0)) = false := by
    simp only [bne_eq_false_iff_eq]
    split <;> omega
  have hv : v0 (stt (varR k) 8 0 st' k.toNat (effR k) true) = varR k := rfl
  have hn : ∀ x, n1 (stt (varR k) 8 0 st' k.toNat (effR k) true) x = x := fun x => rfl
  have hu : uR (stt (varR k) 8 0 st' k.toNat (effR k) true) k = some true := by
    unfold uR
    rw [hn, hv, hl]
    by_cases hk : 0 < k
    · have d : decide (k ≤ 0) = false := by simp; omega
      rw [d]; rfl
    · have d : decide (k ≤ 0) = true := by simp; omega
      have d' : decide (0 < k) = false := by simpa using hk
      have : varR k = k := by simp [varR, d']
      rw [d, this]
      simp
  unfold hR
  rw [hn, hv, hu]
  show (bif !true then some false else bif decide (((k.toNat : Nat) : Int) > 256) then some false else bif ((k.toNat : Nat) : Int) != (if k > 0 then k else 0) then some false else bif ((1 : Nat) : Int) != 1 then some false else bif decide (k > 0) then (bif varR k != 0 then some false else some true) else some true) = some true
  rw [e1, e2]
  by_cases hk : 0 < k
  · have d : decide (k > 0) = true := by simpa using hk
    have d' : decide (0 < k) = true := by simpa using hk
    have : varR k = 0 := by simp [varR, d']
    rw [d, this]; rfl
  · have d : decide (k > 0) = false := by simpa using hk
    rw [d]; rfl
theorem vmRepeats_true (n : Int) (less : Bool) (h1 : 0 ≤ n) : runC' (mcw libW) 11 [.int .u8 n, .bool less] [] projB = some true := by
  have h3 : 0 ≤ n.tmod 100 := Int.tmod_nonneg _ h1
  have h4 : n.tmod 100 < 100 := Int.tmod_lt_of_pos _ (by omega)
  rw [walkV]
  rw [w64_in (n := n.tmod 100) (by omega), w64_in (by omega)]
  cases less with
  | true => exact gR_true (by omega) (by omega)
  | false => exact gR_true (by omega) (by omega)
theorem vmRepeats_fn (n : Int) (less : Bool) (h1 : 0 ≤ n) : Fn Tryz.prog 11 [.int .u8 n, .bool less] [] (.bool true) [] := by
  have hi : InOK [.int .u8 n, .bool less] [] := ⟨fun b hb => by simp [D.idsL, D.ids] at hb, fun x hx => by simp at hx, fun x hx => by simp at hx⟩
  have := model_runC (emb := fun b => (.bool b, [])) (mcw_ok libW_ok) hi (fun res outs y hy => by
    unfold projB at hy
    split at hy
    · cases hy; rfl
    · cases hy) (vmRepeats_true n less h1)
  exact this.1
end
