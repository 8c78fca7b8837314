/-
  Part 3 of the tools and contracts from which the statement is proved.
-/
import Derived.Test.YtlddjhibbccljaaGreatPartr2
set_option linter.unusedVariables false
section
set_option linter.unusedVariables false
namespace Den
open Go Iv

theorem wu64e (n : Int) : IntKind.u64.wrap n = n % 18446744073709551616 := by simp [IntKind.wrap, IntKind.signed, IntKind.bits]
theorem wu32e (n : Int) : IntKind.u32.wrap n = n % 4294967296 := by simp [IntKind.wrap, IntKind.signed, IntKind.bits]
theorem fd63 (n : Int) : n.fdiv (2 ^ (min (63 : Int).toNat IntKind.u64.bits)) = n / 9223372036854775808 := by
  have e : (2 : Int) ^ (min (63 : Int).toNat IntKind.u64.bits) = 9223372036854775808 := by decide
  rw [e, Int.fdiv_eq_ediv_of_nonneg _ (by decide)]
theorem fd32 (n : Int) : n.fdiv (2 ^ (min (32 : Int).toNat IntKind.u64.bits)) = n / 4294967296 := by
  have e : (2 : Int) ^ (min (32 : Int).toNat IntKind.u64.bits) = 4294967296 := by decide
  rw [e, Int.fdiv_eq_ediv_of_nonneg _ (by decide)]

/-- A word minus a carry minus a word. -/
theorem sub64 {x c y : Nat} (hx : x < W) (hc : c ≤ 1) (hy : y < W) : ∃ r b : Nat, r < W ∧ b ≤ 1 ∧ x + W * b = r + c + y ∧
    IntKind.u32.wrap (IntKind.u64.wrap (IntKind.u64.wrap (IntKind.u64.wrap (x : Int) - (c : Int)) - IntKind.u64.wrap (y : Int))) = (r : Int) ∧
    (IntKind.u64.wrap (IntKind.u64.wrap (IntKind.u64.wrap (x : Int) - (c : Int)) - IntKind.u64.wrap (y : Int))).fdiv (2 ^ (min (63 : Int).toNat IntKind.u64.bits)) = (b : Int) := by
  unfold W at *
  rw [fd63]
  simp only [wu64e, wu32e]
  by_cases h : c + y ≤ x
  · exact ⟨x - c - y, 0, by omega, by omega, by omega, by omega, by omega⟩
  · exact ⟨x + 4294967296 - c - y, 1, by omega, by omega, by omega, by omega, by omega⟩
theorem sub64' {x c : Nat} (hx : x < W) (hc : c ≤ 1) : ∃ r b : Nat, r < W ∧ b ≤ 1 ∧ x + W * b = r + c + 0 ∧
    IntKind.u32.wrap (IntKind.u64.wrap (IntKind.u64.wrap (x : Int) - (c : Int))) = (r : Int) ∧
    (IntKind.u64.wrap (IntKind.u64.wrap (x : Int) - (c : Int))).fdiv (2 ^ (min (63 : Int).toNat IntKind.u64.bits)) = (b : Int) := by
  unfold W at *
  rw [fd63]
  simp only [wu64e, wu32e]
  by_cases h : c ≤ x
  · exact ⟨x - c, 0, by omega, by omega, by omega, by omega, by omega⟩
  · exact ⟨x + 4294967296 - c, 1, by omega, by omega, by omega, by omega, by omega⟩
theorem sub32 {x c y : Nat} (hx : x < W) (hc : c ≤ 1) (hy : y < W) : ∃ r b : Nat, r < W ∧ b ≤ 1 ∧ x + W * b = r + c + y ∧
    IntKind.u32.wrap (IntKind.u64.wrap (IntKind.u64.wrap (IntKind.u64.wrap (IntKind.u64.wrap (x : Int) + 4294967296) - (y : Int)) - (c : Int))) = (r : Int) ∧
    IntKind.u64.wrap (1 - (IntKind.u64.wrap (IntKind.u64.wrap (IntKind.u64.wrap (IntKind.u64.wrap (x : Int) + 4294967296) - (y : Int)) - (c : Int))).fdiv (2 ^ (min (32 : Int).toNat IntKind.u64.bits))) = (b : Int) := by
  unfold W at *
  rw [fd32]
  simp only [wu64e, wu32e]
  by_cases h : c + y ≤ x
  · exact ⟨x - c - y, 0, by omega, by omega, by omega, by omega, by omega⟩
  · exact ⟨x + 4294967296 - c - y, 1, by omega, by omega, by omega, by omega, by omega⟩

/-- z lies in new memory. -/
def Fresh (h : Hp) (z : Sl) : Prop := ∀ a, z.a = some a → h a.block = none
theorem Fresh.of {h h' : Hp} {w z : Sl} {cs : List Value} (ho : Own h h' 1 w cs) (hs : InM z w) : Fresh h z := fun a ha => by
  obtain ⟨a', h1, h2⟩ := hs a ha
  have h4 := ho.2.2.2
  rw [h1] at h4
  rw [h2]; exact h4.2.2.1
theorem Hp.none_of_le {h h' : Hp} {b : Nat} (hl : h.le h') (hb : h' b = none) : h b = none := by
  cases hk : h b with
  | none => rfl
  | some B => rw [hl _ _ hk] at hb; cases hb
theorem Fresh.le {h h' : Hp} {z : Sl} (hf : Fresh h' z) (hl : h.le h') : Fresh h z := fun a ha => Hp.none_of_le hl (hf a ha)
theorem Fresh.ne {h : Hp} {z : Sl} {b : Nat} (hf : Fresh h z) (hb : h b ≠ none) : ∀ a, z.a = some a → a.block ≠ b := fun a ha hh => hb (by rw [← hh]; exact hf a ha)
theorem getD_lt {l : List Nat} (hl : okW l) (i : Nat) : l.getD i 0 < W := by
  rw [List.getD_eq_getElem?_getD]
  rcases Nat.lt_or_ge i l.length with h | h
  · rw [List.getElem?_eq_getElem h]; exact ok_get hl h
  · rw [List.getElem?_eq_none h]; exact W_pos
theorem getD_get {l : List Nat} {i : Nat} (hi : i < l.length) : l.getD i 0 = l[i] := by
  rw [List.getD_eq_getElem?_getD, List.getElem?_eq_getElem hi]; rfl
theorem getD_none {l : List Nat} {i : Nat} (hi : l.length ≤ i) : l.getD i 0 = 0 := by
  rw [List.getD_eq_getElem?_getD, List.getElem?_eq_none hi]; rfl
theorem vl_takeD (l : List Nat) (i : Nat) : vl (l.take (i + 1)) = vl (l.take i) + W ^ i * l.getD i 0 := by
  rcases Nat.lt_or_ge i l.length with h | h
  · rw [vl_take_succ h, getD_get h]
  · rw [getD_none h, List.take_of_length_le (by omega), List.take_of_length_le h]; simp
theorem vl_set_take {r : List Nat} {k v : Nat} (hk : k < r.length) : vl ((r.set k v).take (k + 1)) = vl (r.take k) + W ^ k * v := by
  rw [vl_take_succ (by simpa using hk), List.getElem_set_self]
  congr 2
  apply List.ext_getElem
  · simp
  · intro i h1 h2
    simp only [List.length_take] at h1 h2
    simp only [List.getElem_take]
    rw [List.getElem_set_ne (by omega)]

section
variable {h : Hp} {x y : Sl} {l m : List Nat} {Ks : Sl → Hp → Prop} {Ki : Int → Hp → Prop} {Kb : Bool → Hp → Prop} {KI : TInt → Hp → Prop}

theorem plus_of (hx : RdW h x l) (hy : RdW h y m) (ol : okW l) (om : okW m) (hl : l.length ≤ 17592186044400) (hm : m.length ≤ 17592186044400)
    (H : ∀ z h' r, h.le h' → RdW h' z r → okW r → vl r = vl l + vl m → r.length ≤ l.length + m.length + 1 → Ks z h') : F.integer_plus x y Ks h := by
  unfold F.integer_plus
  have lx := hx.len
  have ly := hy.len
  refine joinP_inv (fun st h' => h' = h ∧ ∃ p q, RdW h st.1 p ∧ RdW h st.2.1 q ∧ okW p ∧ okW q ∧ q.length ≤ p.length ∧ p.length + q.length = l.length + m.length ∧ vl p + vl q = vl l + vl m) ?_ ?_
  · rintro ⟨sx, sy, _⟩ h0 ⟨rfl, p, q, hp, hq, op, oq, hqp, hlen, hv⟩
    simp only at hp hq ⊢
    have lp := hp.len
    have lq := hq.len
    refine mk_word 0 (p.length + 1) rfl (by rw [lp, w64 (by omega)]; omega) (by omega) (by omega) fun w h1 hw hw2 => ?_
    refine loopP_of (fun st h' => ∃ (w : Sl) (c i : Nat) (r : List Nat), st = (w, (c : Int), (i : Int), ()) ∧ i ≤ p.length ∧ c ≤ 1 ∧ OwnW h0 h' w r ∧ okW r ∧ r.length = i ∧ vl r + W ^ i * c = vl (p.take i) + vl (q.take i))
      (fun st => ((p.length : Int) - st.2.2.1).toNat) ⟨w, 0, 0, [], rfl, Nat.zero_le _, by omega, hw2, ok_nil, rfl, by simp [vl]⟩ ?_
    rintro st h2 ⟨w, c, i, r, rfl, hi, hc, ho, okr, hrl, hv2⟩
    refine ifP_dec (fun h3 => ?_) (fun h3 => ?_)
    · have hi' : i < p.length := by have : (i : Int) < (sx.len : Int) := h3; omega
      have hpx := ok_get op hi'
      have hqx := getD_lt oq i
      refine rd_word i (hp.le ho.1) rfl hi' fun a ha => ⟨_, ha, ?_⟩
      refine joinP_inv (fun s h4 => h4 = h2 ∧ s = (((c + p[i] + q.getD i 0 : Nat) : Int), ())) ?_ ?_
      · rintro _ h4 ⟨rfl, rfl⟩
        simp only
        refine app_word _ ho (u32n _) (by omega) fun w5 h5 ho5 => ⟨by decide, ?_⟩
        rw [shr32]
        refine ⟨⟨w5, _, i + 1, _, by rw [w64 (by omega)]; rfl, by omega, ?_, ho5, ok_append okr (fun d hd => ?_), by simp [hrl], ?_⟩, by rw [w64 (by omega)]; omega⟩
        · unfold W at *; omega
        · rw [List.mem_singleton.1 hd]; exact Nat.mod_lt _ W_pos
        · rw [vl_append, vl_take_succ hi', vl_takeD, hrl]
          have e2 := Nat.mod_add_div (c + p[i] + q.getD i 0) W
          simp only [vl, Nat.mul_zero, Nat.add_zero, Nat.pow_succ]
          generalize (c + p[i] + q.getD i 0) % W = rr at *
          generalize (c + p[i] + q.getD i 0) / W = qq at *
          generalize W ^ i = P at *
          generalize p[i] = pp at *
          generalize q.getD i 0 = q0 at *
          generalize vl (p.take i) = A at *
          generalize vl (q.take i) = B at *
          generalize vl r = R at *
          clear H
          grind
      · refine ifP_dec (fun h4 => ?_) (fun h4 => ?_)
        · have hi2 : i < q.length := by have : (i : Int) < (sy.len : Int) := h4; omega
          refine rd_word i (hq.le ho.1) rfl hi2 fun a2 ha2 => ⟨_, ha2, ?_⟩
          refine ⟨rfl, ?_⟩
          rw [getD_get hi2] at hqx ⊢
          simp only
          unfold W at *
          congr 1
          simp only [wu64e]; omega
        · have hi2 : q.length ≤ i := by have : ¬ (i : Int) < (sy.len : Int) := h4; omega
          refine ⟨rfl, ?_⟩
          rw [getD_none hi2]
          simp only
          unfold W at *
          congr 1
          simp only [wu64e]; omega
    · have hi' : i = p.length := by have : ¬ (i : Int) < (sx.len : Int) := h3; omega
      rw [List.take_of_length_le (by omega), List.take_of_length_le (by omega)] at hv2
      refine ifP_dec (fun h4 => ?_) (fun h4 => ?_)
      · have hc1 : c = 1 := by have : (c : Int) > 0 := h4; omega
        subst hc1
        refine app_word 1 ho (by simp only; decide) (by omega) fun w5 h5 ho5 => ?_
        refine H _ _ _ ho5.1 ho5.rdW (ok_append okr (fun d hd => by rw [List.mem_singleton.1 hd]; decide)) ?_ (by simp; omega)
        rw [vl_append, hrl]
        simp only [vl, Nat.mul_zero, Nat.add_zero]
        omega
      · have hc0 : c = 0 := by have : ¬ (c : Int) > 0 := h4; omega
        subst hc0
        exact H _ _ _ ho.1 ho.rdW okr (by omega) (by omega)
  · refine ifP_dec (fun h1 => ?_) (fun h1 => ?_)
    · exact ⟨rfl, m, l, hy, hx, om, ol, by omega, by omega, by omega⟩
    · exact ⟨rfl, l, m, hx, hy, ol, om, by omega, by omega, by omega⟩
theorem plus_call (hx : RdW h x l) (hy : RdW h y m) (ol : okW l) (om : okW m) (hl : l.length ≤ 17592186044400) (hm : m.length ≤ 17592186044400)
    (H : ∀ z h' r, h.le h' → RdW h' z r → okW r → vl r = vl l + vl m → r.length ≤ l.length + m.length + 1 → Ks z h') : callP (F.integer_plus x y) Ks h :=
  callP_of (fun z h' => ∃ r, RdW h' z r ∧ okW r ∧ vl r = vl l + vl m ∧ r.length ≤ l.length + m.length + 1)
    (fun K' hk => plus_of hx hy ol om hl hm fun z h' r h1 h2 h3 h4 h5 => hk _ _ h1 ⟨r, h2, h3, h4, h5⟩) fun z h' h1 ⟨r, h2, h3, h4, h5⟩ => H z h' r h1 h2 h3 h4 h5

theorem rplus_of (hx : RdW h x l) (hy : RdW h y m) (ol : okW l) (om : okW m) (hl : l.length ≤ 17592186044400) (hm : m.length ≤ 17592186044400)
    (H : ∀ z h', h.le h' → RdW h' z (dg (vl l + vl m)) → Ks z h') : F.ref01_plus x y Ks h := by
  unfold F.ref01_plus
  have lx := hx.len
  have ly := hy.len
  refine joinP_inv (fun st h' => h' = h ∧ ∃ p q, RdW h st.1 p ∧ RdW h st.2.1 q ∧ okW p ∧ okW q ∧ q.length ≤ p.length ∧ p.length + q.length = l.length + m.length ∧ vl p + vl q = vl l + vl m) ?_ ?_
  · rintro ⟨sx, sy, _⟩ h0 ⟨rfl, p, q, hp, hq, op, oq, hqp, hlen, hv⟩
    simp only at hp hq ⊢
    have lp := hp.len
    have lq := hq.len
    refine mk_word (p.length + 1) (p.length + 1) (by rw [lp, w64 (by omega)]; omega) (by rw [lp, w64 (by omega)]; omega) (by omega) (by omega) fun w h1 hw hw2 => ?_
    refine loopP_of (fun st h' => ∃ (c i : Nat) (r : List Nat), st = ((c : Int), (i : Int), ()) ∧ i ≤ p.length ∧ c ≤ 1 ∧ OwnW h0 h' w r ∧ okW r ∧ r.length = p.length + 1 ∧ vl (r.take i) + W ^ i * c = vl (p.take i) + vl (q.take i))
      (fun st => ((p.length : Int) - st.2.1).toNat) ⟨0, 0, _, rfl, Nat.zero_le _, by omega, hw2, ok_rep _, by simp, by simp [vl]⟩ ?_
    rintro st h2 ⟨c, i, r, rfl, hi, hc, ho, okr, hrl, hv2⟩
    refine ifP_dec (fun h3 => ?_) (fun h3 => ?_)
    · have hi' : i < p.length := by have : (i : Int) < (sx.len : Int) := h3; omega
      have hpx := ok_get op hi'
      have hqx := getD_lt oq i
      refine rd_word i (hp.le ho.1) rfl hi' fun a ha => ⟨_, ha, ?_⟩
      refine joinP_inv (fun s h4 => h4 = h2 ∧ s = (((c + p[i] + q.getD i 0 : Nat) : Int), ())) ?_ ?_
      · rintro _ h4 ⟨rfl, rfl⟩
        simp only
        refine st_word i _ ho rfl (by omega) (u32n _) fun h5 b5 _ _ _ ho5 => ⟨by decide, ?_⟩
        rw [shr32]
        refine ⟨⟨_, i + 1, _, by rw [w64 (by omega)]; rfl, by omega, ?_, ho5, ok_set okr (Nat.mod_lt _ W_pos), by simp [hrl], ?_⟩, by rw [w64 (by omega)]; omega⟩
        · unfold W at *; omega
        · rw [vl_set_take (by omega), vl_take_succ hi', vl_takeD]
          have e2 := Nat.mod_add_div (c + p[i] + q.getD i 0) W
          simp only [Nat.pow_succ]
          generalize (c + p[i] + q.getD i 0) % W = rr at *
          generalize (c + p[i] + q.getD i 0) / W = qq at *
          generalize W ^ i = P at *
          generalize p[i] = pp at *
          generalize q.getD i 0 = q0 at *
          generalize vl (p.take i) = A at *
          generalize vl (q.take i) = B at *
          generalize vl (r.take i) = R at *
          clear H
          grind
      · refine ifP_dec (fun h4 => ?_) (fun h4 => ?_)
        · have hi2 : i < q.length := by have : (i : Int) < (sy.len : Int) := h4; omega
          refine rd_word i (hq.le ho.1) rfl hi2 fun a2 ha2 => ⟨_, ha2, ?_⟩
          refine ⟨rfl, ?_⟩
          rw [getD_get hi2] at hqx ⊢
          simp only
          unfold W at *
          congr 1
          simp only [wu64e]; omega
        · have hi2 : q.length ≤ i := by have : ¬ (i : Int) < (sy.len : Int) := h4; omega
          refine ⟨rfl, ?_⟩
          rw [getD_none hi2]
          simp only
          unfold W at *
          congr 1
          simp only [wu64e]; omega
    · have hi' : i = p.length := by have : ¬ (i : Int) < (sx.len : Int) := h3; omega
      subst hi'
      rw [List.take_of_length_le (l := p) (by omega), List.take_of_length_le (l := q) (by omega)] at hv2
      refine st_word p.length c ho (by rw [lp]) (by omega) (by rw [u32n, Nat.mod_eq_of_lt (by unfold W; omega)]) fun h5 b5 _ _ _ ho5 => ?_
      have okr5 : okW (r.set p.length c) := ok_set okr (by unfold W; omega)
      refine rtrim_call ho5.rdW (by simp; omega) fun z hz => ?_
      rw [trim_eq okr5] at hz
      have e1 := vl_set_take (r := r) (k := p.length) (v := c) (by omega)
      rw [List.take_of_length_le (by simp; omega)] at e1
      rw [e1, hv2, hv] at hz
      exact H _ _ ho5.1 hz
  · refine ifP_dec (fun h1 => ?_) (fun h1 => ?_)
    · exact ⟨rfl, m, l, hy, hx, om, ol, by omega, by omega, by omega⟩
    · exact ⟨rfl, l, m, hx, hy, ol, om, by omega, by omega, by omega⟩
theorem rplus_call (hx : RdW h x l) (hy : RdW h y m) (ol : okW l) (om : okW m) (hl : l.length ≤ 17592186044400) (hm : m.length ≤ 17592186044400)
    (H : ∀ z h', h.le h' → RdW h' z (dg (vl l + vl m)) → Ks z h') : callP (F.ref01_plus x y) Ks h :=
  callP_of _ (fun K' => rplus_of hx hy ol om hl hm) H

theorem minus_end {r : List Nat} {b : Nat} (hrl : r.length = l.length) (okr : okW r) (hml : m.length ≤ l.length) (hle : vl m ≤ vl l) (hb : b ≤ 1)
    (hv : vl (r.take l.length) + vl (m.take l.length) = vl (l.take l.length) + W ^ l.length * b) : vl r = vl l - vl m := by
  rw [List.take_of_length_le (l := r) (by omega), List.take_of_length_le hml, List.take_of_length_le (Nat.le_refl _)] at hv
  have h1 := vl_lt okr
  rw [hrl] at h1
  have : b = 0 := by
    rcases Nat.eq_zero_or_pos b with h2 | h2
    · exact h2
    · obtain rfl : b = 1 := by omega
      omega
  subst this
  omega
theorem minus_of (hx : RdW h x l) (hy : RdW h y m) (ol : okW l) (om : okW m) (hl : l.length ≤ 35184372088800) (hml : m.length ≤ l.length) (hle : vl m ≤ vl l)
    (H : ∀ z h', h.le h' → RdW h' z (dg (vl l - vl m)) → Ks z h') : F.integer_minus x y Ks h := by
  unfold F.integer_minus
  have lx := hx.len
  have ly := hy.len
  refine mk_word l.length l.length (by omega) (by omega) (by omega) (by omega) fun w h1 hw hw2 => ?_
  refine loopP_of (fun st h' => ∃ (c i : Nat) (r : List Nat), st = ((c : Int), (i : Int), ()) ∧ i ≤ l.length ∧ c ≤ 1 ∧ OwnW h h' w r ∧ okW r ∧ r.length = l.length ∧ vl (r.take i) + vl (m.take i) = vl (l.take i) + W ^ i * c)
    (fun st => ((l.length : Int) - st.2.1).toNat) ⟨0, 0, _, rfl, Nat.zero_le _, by omega, hw2, ok_rep _, by simp, by simp [vl]⟩ ?_
  rintro st h2 ⟨c, i, r, rfl, hi, hc, ho, okr, hrl, hv2⟩
  refine ifP_dec (fun h3 => ?_) (fun h3 => ?_)
  · have hi' : i < l.length := by have : (i : Int) < (x.len : Int) := h3; omega
    have hlx := ok_get ol hi'
    have hmx := getD_lt om i
    refine rd_word i (hx.le ho.1) rfl hi' fun a ha => ⟨_, ha, ?_⟩
    refine joinP_inv (fun s h4 => h4 = h2 ∧ ∃ rr b : Nat, rr < W ∧ b ≤ 1 ∧ l[i] + W * b = rr + c + m.getD i 0 ∧ IntKind.u32.wrap s.1 = (rr : Int) ∧ s.1.fdiv (2 ^ (min (63 : Int).toNat IntKind.u64.bits)) = (b : Int)) ?_ ?_
    · rintro s h4 ⟨rfl, rr, b, hrr, hb, he, h5, h6⟩
      refine st_word i rr ho rfl (by omega) h5 fun h5 b5 _ _ _ ho5 => ⟨by decide, ?_⟩
      rw [h6]
      refine ⟨⟨b, i + 1, _, by rw [w64 (by simp only; omega)]; rfl, by omega, hb, ho5, ok_set okr hrr, by simp [hrl], ?_⟩, by simp only; rw [w64 (by omega)]; omega⟩
      rw [vl_set_take (by omega), vl_take_succ hi', vl_takeD, Nat.pow_succ]
      generalize W ^ i = P at *
      generalize l[i] = pp at *
      generalize m.getD i 0 = q0 at *
      generalize vl (l.take i) = A at *
      generalize vl (m.take i) = B at *
      generalize vl (r.take i) = R at *
      have e := congrArg (P * ·) he
      simp only [Nat.mul_add] at e
      rw [Nat.mul_assoc]
      omega
    · refine ifP_dec (fun h4 => ?_) (fun h4 => ?_)
      · have hi2 : i < m.length := by have : (i : Int) < (y.len : Int) := h4; omega
        refine rd_word i (hy.le ho.1) rfl hi2 fun a2 ha2 => ⟨_, ha2, ?_⟩
        rw [getD_get hi2] at hmx ⊢
        exact ⟨rfl, sub64 hlx hc hmx⟩
      · have hi2 : m.length ≤ i := by have : ¬ (i : Int) < (y.len : Int) := h4; omega
        rw [getD_none hi2]
        exact ⟨rfl, sub64' hlx hc⟩
  · have hi' : i = l.length := by have : ¬ (i : Int) < (x.len : Int) := h3; omega
    subst hi'
    refine trim_call ho.rdW (by omega) fun z hz => ?_
    rw [trim_eq okr, minus_end hrl okr hml hle hc hv2] at hz
    exact H _ _ ho.1 hz
theorem minus_call (hx : RdW h x l) (hy : RdW h y m) (ol : okW l) (om : okW m) (hl : l.length ≤ 35184372088800) (hml : m.length ≤ l.length) (hle : vl m ≤ vl l)
    (H : ∀ z h', h.le h' → RdW h' z (dg (vl l - vl m)) → Ks z h') : callP (F.integer_minus x y) Ks h :=
  callP_of _ (fun K' => minus_of hx hy ol om hl hml hle) H
theorem rminusX_of (hx : RdW h x l) (hy : RdW h y m) (ol : okW l) (om : okW m) (hl : l.length ≤ 35184372088800) (hml : m.length ≤ l.length) (hle : vl m ≤ vl l)
    (H : ∀ z h', h.le h' → RdW h' z (dg (vl l - vl m)) → Fresh h z → Ks z h') : F.ref01_minus x y Ks h := by
  unfold F.ref01_minus
  have lx := hx.len
  have ly := hy.len
  refine mk_word l.length l.length (by omega) (by omega) (by omega) (by omega) fun w h1 hw hw2 => ?_
  refine loopP_of (fun st h' => ∃ (c i : Nat) (r : List Nat), st = ((c : Int), (i : Int), ()) ∧ i ≤ l.length ∧ c ≤ 1 ∧ OwnW h h' w r ∧ okW r ∧ r.length = l.length ∧ vl (r.take i) + vl (m.take i) = vl (l.take i) + W ^ i * c)
    (fun st => ((l.length : Int) - st.2.1).toNat) ⟨0, 0, _, rfl, Nat.zero_le _, by omega, hw2, ok_rep _, by simp, by simp [vl]⟩ ?_
  rintro st h2 ⟨c, i, r, rfl, hi, hc, ho, okr, hrl, hv2⟩
  refine ifP_dec (fun h3 => ?_) (fun h3 => ?_)
  · have hi' : i < l.length := by have : (i : Int) < (x.len : Int) := h3; omega
    have hlx := ok_get ol hi'
    have hmx := getD_lt om i
    refine joinP_inv (fun s h4 => h4 = h2 ∧ s = (((m.getD i 0 : Nat) : Int), ())) ?_ ?_
    · rintro _ h4 ⟨rfl, rfl⟩
      refine rd_word i (hx.le ho.1) rfl hi' fun a ha => ⟨_, ha, ?_⟩
      simp only
      obtain ⟨rr, b, hrr, hb, he, h5, h6⟩ := sub32 hlx hc hmx
      refine st_word i rr ho rfl (by omega) h5 fun h5 b5 _ _ _ ho5 => ⟨by decide, ?_⟩
      rw [h6]
      refine ⟨⟨b, i + 1, _, by rw [w64 (by omega)]; rfl, by omega, hb, ho5, ok_set okr hrr, by simp [hrl], ?_⟩, by rw [w64 (by omega)]; omega⟩
      rw [vl_set_take (by omega), vl_take_succ hi', vl_takeD, Nat.pow_succ]
      generalize W ^ i = P at *
      generalize l[i] = pp at *
      generalize m.getD i 0 = q0 at *
      generalize vl (l.take i) = A at *
      generalize vl (m.take i) = B at *
      generalize vl (r.take i) = R at *
      have e := congrArg (P * ·) he
      simp only [Nat.mul_add] at e
      rw [Nat.mul_assoc]
      omega
    · refine ifP_dec (fun h4 => ?_) (fun h4 => ?_)
      · have hi2 : i < m.length := by have : (i : Int) < (y.len : Int) := h4; omega
        refine rd_word i (hy.le ho.1) rfl hi2 fun a2 ha2 => ⟨_, ha2, ?_⟩
        rw [getD_get hi2] at hmx ⊢
        exact ⟨rfl, by rw [u64n (by unfold W at *; omega)]⟩
      · have hi2 : m.length ≤ i := by have : ¬ (i : Int) < (y.len : Int) := h4; omega
        rw [getD_none hi2]
        exact ⟨rfl, rfl⟩
  · have hi' : i = l.length := by have : ¬ (i : Int) < (x.len : Int) := h3; omega
    subst hi'
    refine rtrimX_call ho.rdW (by omega) fun z hz hs => ?_
    rw [trim_eq okr, minus_end hrl okr hml hle hc hv2] at hz
    exact H _ _ ho.1 hz (Fresh.of ho hs)
theorem rminusX_call (hx : RdW h x l) (hy : RdW h y m) (ol : okW l) (om : okW m) (hl : l.length ≤ 35184372088800) (hml : m.length ≤ l.length) (hle : vl m ≤ vl l)
    (H : ∀ z h', h.le h' → RdW h' z (dg (vl l - vl m)) → Fresh h z → Ks z h') : callP (F.ref01_minus x y) Ks h :=
  callP_of (fun z h' => RdW h' z (dg (vl l - vl m)) ∧ Fresh h z) (fun K' hk => rminusX_of hx hy ol om hl hml hle fun z h' h1 h2 h3 => hk z h' h1 ⟨h2, h3⟩) fun z h' h1 ⟨h2, h3⟩ => H z h' h1 h2 h3
theorem rminus_call (hx : RdW h x l) (hy : RdW h y m) (ol : okW l) (om : okW m) (hl : l.length ≤ 35184372088800) (hml : m.length ≤ l.length) (hle : vl m ≤ vl l)
    (H : ∀ z h', h.le h' → RdW h' z (dg (vl l - vl m)) → Ks z h') : callP (F.ref01_minus x y) Ks h :=
  rminusX_call hx hy ol om hl hml hle fun z h' h1 h2 _ => H z h' h1 h2

theorem times_of (hx : RdW h x l) (hy : RdW h y m) (ol : okW l) (om : okW m) (hl : l.length + m.length ≤ 35184372088800)
    (H : ∀ z h', h.le h' → RdW h' z (dg (vl l * vl m)) → Ks z h') : F.integer_times x y Ks h := by
  unfold F.integer_times
  have lx := hx.len
  have ly := hy.len
  refine joinP_inv (fun _ h' => h' = h) ?_ ?_
  · rintro _ h' rfl
    refine mk_word (l.length + m.length) (l.length + m.length) (by rw [w64 (by omega)]; omega) (by rw [w64 (by omega)]; omega) (by omega) (by omega) fun w h1 hw hw2 => ?_
    refine times_loop (Kf := fun w h3 => callP (F.integer_trim w) (fun r h7 => Ks r h7) h3) (hx) (hy) ol om hl hw2 fun h3 r ho okr hrl hv => ?_
    refine trim_call ho.rdW (by omega) fun z hz => ?_
    rw [trim_eq okr, hv] at hz
    exact H _ _ ho.1 hz
  · refine ifP_eq (fun h1 => ?_) (fun h1 => ifP_eq (fun h2 => ?_) (fun h2 => rfl))
    · have : l = [] := List.length_eq_zero_iff.1 (by omega)
      subst this
      refine H _ _ (Hp.le_refl _) ?_
      simp only [vl, Nat.zero_mul, dg_zero]
      exact RdW.nil
    · have : m = [] := List.length_eq_zero_iff.1 (by omega)
      subst this
      refine H _ _ (Hp.le_refl _) ?_
      simp only [vl, Nat.mul_zero, dg_zero]
      exact RdW.nil
theorem times_call (hx : RdW h x l) (hy : RdW h y m) (ol : okW l) (om : okW m) (hl : l.length + m.length ≤ 35184372088800)
    (H : ∀ z h', h.le h' → RdW h' z (dg (vl l * vl m)) → Ks z h') : callP (F.integer_times x y) Ks h :=
  callP_of _ (fun K' => times_of hx hy ol om hl) H

theorem rmac {c x y z : Nat} (hc : c < W) (hx : x < W) (hy : y < W) (hz : z < W) :
    IntKind.u64.wrap (IntKind.u64.wrap ((c : Int) + IntKind.u64.wrap (z : Int)) + IntKind.u64.wrap (IntKind.u64.wrap (x : Int) * IntKind.u64.wrap (y : Int))) = ((c + (x * y + z) : Nat) : Int) := by
  unfold W at *
  have hxy : x * y ≤ 4294967295 * 4294967295 := Nat.mul_le_mul (by omega) (by omega)
  rw [u64n (n := x) (by omega), u64n (n := y) (by omega), u64n (n := z) (by omega)]
  rw [show ((x : Int) * (y : Int)) = ((x * y : Nat) : Int) by simp, u64n (n := x * y) (by omega)]
  rw [show ((c : Int) + (z : Int)) = ((c + z : Nat) : Int) by simp, u64n (n := c + z) (by omega)]
  rw [show (((c + z : Nat) : Int) + ((x * y : Nat) : Int)) = ((c + (x * y + z) : Nat) : Int) by omega, u64n (by omega)]

theorem rtimesX_of {a b : Sl} {la lb : List Nat} (ha : RdW h a la) (hb : RdW h b lb) (oa : okW la) (ob : okW lb) (hl : la.length + lb.length ≤ 35184372088800)
    (H : ∀ z h', h.le h' → RdW h' z (dg (vl la * vl lb)) → Fresh h z → Ks z h') : F.ref01_times a b Ks h := by
  unfold F.ref01_times
  have hal := ha.len
  have hbl := hb.len
  refine mk_word (la.length + lb.length) (la.length + lb.length) (by rw [w64 (by omega)]; omega) (by rw [w64 (by omega)]; omega) (by omega) (by omega) fun x h1 hw ho => ?_
  refine loopP_of (fun st h' => ∃ (i : Nat) (l : List Nat), st = ((i : Int), ()) ∧ i ≤ la.length ∧ OwnW h h' x l ∧ okW l ∧ l.length = la.length + lb.length ∧ vl l = vl (la.take i) * vl lb ∧ ∀ j (hj : j < l.length), i + lb.length ≤ j → l[j] = 0)
    (fun st => ((la.length : Int) - st.1).toNat) ⟨0, _, rfl, Nat.zero_le _, ho, ok_rep _, by simp, by rw [vl_rep]; simp [vl], fun j hj _ => by simp⟩ ?_
  rintro st h1 ⟨i, l, rfl, hi, ho1, okl, hll, hv, hz⟩
  refine ifP_dec (fun h2 => ?_) (fun h2 => ?_)
  · simp only at h2
    have hi' : i < la.length := by omega
    have hxi := ok_get oa hi'
    refine loopP_of (fun st h' => ∃ (k c : Nat) (l' : List Nat), st = ((c : Int), (k : Int), ()) ∧ k ≤ lb.length ∧ c < W ∧ OwnW h h' x l' ∧ okW l' ∧ l'.length = la.length + lb.length ∧
        vl l' + W ^ (i + k) * c = vl l + W ^ i * (la[i] * vl (lb.take k)) ∧ ∀ j (hj : j < l'.length), i + lb.length ≤ j → l'[j] = 0)
      (fun st => ((lb.length : Int) - st.2.1).toNat) ⟨0, 0, l, rfl, Nat.zero_le _, by decide, ho1, okl, hll, by simp [vl], hz⟩ ?_
    rintro st h3 ⟨k, c, l', rfl, hk, hc, ho3, okl', hll', hv', hz'⟩
    refine ifP_dec (fun h4 => ?_) (fun h4 => ?_)
    · simp only at h4
      have hk' : k < lb.length := by omega
      have hyk := ok_get ob hk'
      have hik : i + k < l'.length := by omega
      have hzk := ok_get okl' hik
      have wik : IntKind.i64.wrap ((i : Int) + (k : Int)) = ((i + k : Nat) : Int) := by rw [w64 (by omega)]; omega
      simp only
      rw [wik]
      refine rd_word (i + k) ho3.rdW rfl hik fun a2 ha2 => ⟨_, ha2, ?_⟩
      refine rd_word i (ha.le ho3.1) rfl hi' fun aa haa => ⟨_, haa, ?_⟩
      refine rd_word k (hb.le ho3.1) rfl hk' fun a1 ha1 => ⟨_, ha1, ?_⟩
      simp only
      rw [rmac hc hxi hyk hzk]
      refine st_word (i + k) _ ho3 rfl hik (u32n _) fun h5 b5 _ _ _ ho5 => ⟨by decide, ?_⟩
      rw [shr32]
      refine ⟨⟨k + 1, _, _, by rw [w64 (by omega)]; rfl, by omega, mac_lt hc hxi hyk hzk, ho5, ok_set okl' (Nat.mod_lt _ W_pos), by simp [hll'], ?_, ?_⟩, by rw [w64 (by omega)]; omega⟩
      · have e1 := vl_set (l := l') (k := i + k) (v := (c + (la[i] * lb[k] + l'[i + k])) % W) hik
        have e2 := Nat.mod_add_div (c + (la[i] * lb[k] + l'[i + k])) W
        have e3 := vl_take_succ hk'
        rw [e3]
        generalize vl (l'.set (i + k) ((c + (la[i] * lb[k] + l'[i + k])) % W)) = V at e1 ⊢
        generalize hr : (c + (la[i] * lb[k] + l'[i + k])) % W = r at *
        generalize hq : (c + (la[i] * lb[k] + l'[i + k])) / W = q at *
        generalize vl l' = V' at *
        generalize vl l = V0 at *
        generalize l'[i + k] = z at *
        generalize la[i] = xx at *
        generalize lb[k] = yy at *
        generalize vl (lb.take k) = T at *
        have p1 : W ^ (i + (k + 1)) = W ^ (i + k) * W := by rw [← Nat.add_assoc, Nat.pow_succ]
        have p2 : W ^ (i + k) = W ^ i * W ^ k := Nat.pow_add ..
        rw [p1]
        generalize W ^ (i + k) = P at *
        subst p2
        generalize W ^ i = Pi at *
        generalize W ^ k = Pk at *
        clear H
        grind
      · intro j hj hjl
        rw [List.length_set] at hj
        rw [List.getElem_set_ne (by omega)]
        exact hz' j hj hjl
    · simp only at h4
      have hk' : k = lb.length := by omega
      subst hk'
      have hil : i + lb.length < l'.length := by omega
      have w1 : IntKind.i64.wrap ((i : Int) + (b.len : Int)) = ((i + lb.length : Nat) : Int) := by rw [hbl, w64 (by omega)]; omega
      simp only
      rw [w1]
      refine st_word (i + lb.length) c ho3 rfl hil (by rw [u32n, Nat.mod_eq_of_lt hc]) fun h5 b5 _ _ _ ho5 => ?_
      refine ⟨⟨i + 1, _, by rw [w64 (by omega)]; rfl, by omega, ho5, ok_set okl' hc, by simp [hll'], ?_, ?_⟩, by rw [w64 (by omega)]; omega⟩
      · have e1 := vl_set (l := l') (k := i + lb.length) (v := c) hil
        rw [hz' _ hil (Nat.le_refl _)] at e1
        rw [List.take_of_length_le (Nat.le_refl _)] at hv'
        rw [vl_take_succ hi', Nat.add_mul]
        rw [Nat.mul_assoc]
        omega
      · intro j hj hjl
        rw [List.length_set] at hj
        rw [List.getElem_set_ne (by omega)]
        exact hz' j hj (by omega)
  · simp only at h2
    have : i = la.length := by omega
    subst this
    rw [List.take_of_length_le (Nat.le_refl _)] at hv
    refine rtrimX_call ho1.rdW (by omega) fun z hz2 hs => ?_
    rw [trim_eq okl, hv] at hz2
    exact H _ _ ho1.1 hz2 (Fresh.of ho1 hs)
theorem rtimesX_call (hx : RdW h x l) (hy : RdW h y m) (ol : okW l) (om : okW m) (hl : l.length + m.length ≤ 35184372088800)
    (H : ∀ z h', h.le h' → RdW h' z (dg (vl l * vl m)) → Fresh h z → Ks z h') : callP (F.ref01_times x y) Ks h :=
  callP_of (fun z h' => RdW h' z (dg (vl l * vl m)) ∧ Fresh h z) (fun K' hk => rtimesX_of hx hy ol om hl fun z h' h1 h2 h3 => hk z h' h1 ⟨h2, h3⟩) fun z h' h1 ⟨h2, h3⟩ => H z h' h1 h2 h3
theorem rtimes_call (hx : RdW h x l) (hy : RdW h y m) (ol : okW l) (om : okW m) (hl : l.length + m.length ≤ 35184372088800)
    (H : ∀ z h', h.le h' → RdW h' z (dg (vl l * vl m)) → Ks z h') : callP (F.ref01_times x y) Ks h :=
  rtimesX_call hx hy ol om hl fun z h' h1 h2 _ => H z h' h1 h2
end
end Den
end

section
set_option linter.unusedVariables false
namespace Den
open Go Iv

/-- Small enough for every step. -/
def Ok (n : Int) : Prop := (dg n.natAbs).length ≤ 8796093022208
/-- Less than the k-th power of W. -/
def Lt (k : Nat) (n : Int) : Prop := n.natAbs < W ^ k
theorem Lt.ok {k : Nat} {n : Int} (h : Lt k n) (hk : k ≤ 8796093022208) : Ok n := Nat.le_trans (dg_len.2 h) hk
theorem Lt.mono {k j : Nat} {n : Int} (h : Lt k n) (hk : k ≤ j) : Lt j n := Nat.lt_of_lt_of_le h (Nat.pow_le_pow_right W_pos hk)
theorem Lt.mul {k j : Nat} {m n : Int} (h : Lt k m) (h2 : Lt j n) : Lt (k + j) (m * n) := by
  unfold Lt at *
  rw [Int.natAbs_mul, Nat.pow_add]
  exact Nat.mul_lt_mul'' h h2
theorem Lt.neg {k : Nat} {n : Int} (h : Lt k n) : Lt k (-n) := by unfold Lt at *; rw [Int.natAbs_neg]; exact h
theorem Lt.add {k j : Nat} {m n : Int} (h : Lt k m) (h2 : Lt j n) : Lt (k + j + 1) (m + n) := by
  unfold Lt at *
  have h3 := Int.natAbs_add_le m n
  have e1 : W ^ k ≤ W ^ (k + j) := Nat.pow_le_pow_right W_pos (by omega)
  have e2 : W ^ j ≤ W ^ (k + j) := Nat.pow_le_pow_right W_pos (by omega)
  rw [Nat.pow_succ]
  have : W ^ (k + j) * 2 ≤ W ^ (k + j) * W := Nat.mul_le_mul_left _ (by decide)
  omega
theorem Lt.sub {k j : Nat} {m n : Int} (h : Lt k m) (h2 : Lt j n) : Lt (k + j + 1) (m - n) := by
  rw [Int.sub_eq_add_neg]; exact h.add h2.neg
theorem Lt.le {k : Nat} {m n : Int} (h : Lt k m) (h2 : n.natAbs ≤ m.natAbs) : Lt k n := Nat.lt_of_le_of_lt h2 h
theorem NI.len {h : Hp} {x : TInt} {n : Int} (hx : NI h x n) : x.mag.len = (dg n.natAbs).length := hx.1.len
theorem NI.len0 {h : Hp} {x : TInt} {n : Int} (hx : NI h x n) : ((x.mag.len : Int) == 0) = decide (n = 0) := by
  rw [hx.len]
  by_cases h0 : n = 0
  · subst h0; simp [dg_zero]
  · have : (dg n.natAbs).length ≠ 0 := fun hh => h0 (by have := dg_nil.1 (List.length_eq_zero_iff.1 hh); omega)
    rw [decide_eq_false h0]
    have h2 : ((dg n.natAbs).length : Int) ≠ 0 := by omega
    simpa using fun hh => h0 (by have := dg_nil.1 hh; omega)
theorem len_zero {n : Int} : (dg n.natAbs).length = 0 ↔ n = 0 := by
  rw [List.length_eq_zero_iff, dg_nil]; omega

section
variable {h : Hp} {x y : Sl} {l : List Nat} {m n : Int} {a b : TInt} {Ks : Sl → Hp → Prop} {Ki : Int → Hp → Prop} {Kb : Bool → Hp → Prop} {KI : TInt → Hp → Prop} {KP : (TInt × TInt × Int) → Hp → Prop}

theorem trim_dg (n : Nat) : trimL (dg n) = dg n := by rw [trim_eq (ok_dg n), vl_dg]
theorem trimd_call {n : Nat} (hr : RdW h x (dg n)) (hl : (dg n).length ≤ 35184372088800) (H : ∀ y, RdW h y (dg n) → Ks y h) : callP (F.integer_trim x) Ks h :=
  trim_call hr (by omega) fun y hy => H y (by rw [trim_dg] at hy; exact hy)
theorem rtrimd_call {n : Nat} (hr : RdW h x (dg n)) (hl : (dg n).length ≤ 35184372088800) (H : ∀ y, RdW h y (dg n) → Ks y h) : callP (F.ref01_trim x) Ks h :=
  rtrim_call hr (by omega) fun y hy => H y (by rw [trim_dg] at hy; exact hy)
theorem trimN_callX (ha : NI h a m) (om : (dg m.natAbs).length ≤ 35184372087808) (H : ∀ y, RdW h y (dg m.natAbs) → Ks y h) : callP (F.integer_trim a.mag) Ks h :=
  trimd_call ha.1 (Nat.le_trans om (by decide)) H
theorem rtrimN_callX (ha : NI h a m) (om : (dg m.natAbs).length ≤ 35184372087808) (H : ∀ y, RdW h y (dg m.natAbs) → Ks y h) : callP (F.ref01_trim a.mag) Ks h :=
  rtrimd_call ha.1 (Nat.le_trans om (by decide)) H
theorem trimN_call (ha : NI h a m) (om : Ok m) (H : ∀ y, RdW h y (dg m.natAbs) → Ks y h) : callP (F.integer_trim a.mag) Ks h :=
  trimd_call ha.1 (Nat.le_trans om (by decide)) H
theorem signedN_call {neg : Bool} {k : Nat} (hr : RdW h x (dg k)) (hl : (dg k).length ≤ 35184372088800) (H : ∀ y, NI h y (sg neg k) → KI y h) : callP (F.integer_signed neg x) KI h :=
  signed_call hr (ok_dg k) (by omega) fun y hy => H y (by rw [vl_dg] at hy; exact hy)
theorem rsignedN_call {neg : Bool} {k : Nat} (hr : RdW h x (dg k)) (hl : (dg k).length ≤ 35184372088800) (H : ∀ y, NI h y (sg neg k) → KI y h) : callP (F.ref01_signed neg x) KI h :=
  rsigned_call hr (ok_dg k) (by omega) fun y hy => H y (by rw [vl_dg] at hy; exact hy)

theorem sg_of (n : Int) : sg (decide (n < 0)) n.natAbs = n := by
  unfold sg
  by_cases h : n < 0
  · rw [if_pos (by simpa using h)]; omega
  · rw [if_neg (by simpa using h)]; omega
theorem sg_not (n : Int) : sg (!decide (n < 0)) n.natAbs = -n := by
  unfold sg
  by_cases h : n < 0
  · rw [if_neg (by simpa using h)]; omega
  · rw [if_pos (by simpa using h)]; omega

theorem u64neg {n : Int} (h : n < 0) (h2 : -9223372036854775808 ≤ n) : IntKind.u64.wrap (0 - IntKind.u64.wrap n) = ((n.natAbs : Nat) : Int) := by
  simp only [wu64e]; omega
theorem u64pos {n : Int} (h : ¬ n < 0) (h2 : n ≤ 9223372036854775807) : IntKind.u64.wrap n = ((n.natAbs : Nat) : Int) := by
  simp only [wu64e]; omega
theorem dg2 {n : Nat} (h : n < 18446744073709551616) : (dg n).length ≤ 2 := by
  have h2 : W ^ 2 = 18446744073709551616 := by decide
  exact dg_len.2 (by rw [h2]; exact h)
theorem FromInt_call (h1 : -9223372036854775808 ≤ n) (h2 : n ≤ 9223372036854775807) (H : ∀ y h', h.le h' → NI h' y n → KI y h') : callP (F.integer_FromInt n) KI h := by
  refine callP_of _ (fun K' hk => ?_) H
  unfold F.integer_FromInt
  refine joinP_inv (fun s h' => h' = h ∧ s = (((n.natAbs : Nat) : Int), ())) ?_ ?_
  · rintro _ h' ⟨rfl, rfl⟩
    refine fromUint_call rfl (by omega) fun y h1 hl hy => ?_
    have := dg2 (n := n.natAbs) (by omega)
    refine signedN_call hy (by omega) fun z hz => hk _ _ hl ?_
    rw [sg_of] at hz; exact hz
  · refine ifP_dec (fun h3 => ⟨rfl, ?_⟩) (fun h3 => ⟨rfl, ?_⟩)
    · rw [u64neg h3 h1]
    · rw [u64pos h3 h2]
theorem rFromInt_call (h1 : -9223372036854775808 ≤ n) (h2 : n ≤ 9223372036854775807) (H : ∀ y h', h.le h' → NI h' y n → KI y h') : callP (F.ref01_FromInt n) KI h := by
  refine callP_of _ (fun K' hk => ?_) H
  unfold F.ref01_FromInt
  have h5 := dg2 (n := n.natAbs) (by omega)
  refine ifP_dec (fun h3 => ?_) (fun h3 => ?_)
  · rw [u64neg h3 h1]
    refine words_call rfl (by omega) fun y h1 hl hy => ?_
    refine rsignedN_call hy (by omega) fun z hz => hk _ _ hl ?_
    have : sg true n.natAbs = n := by unfold sg; simp; omega
    rw [this] at hz; exact hz
  · rw [u64pos h3 h2]
    refine words_call rfl (by omega) fun y h1 hl hy => ?_
    refine rsignedN_call hy (by omega) fun z hz => hk _ _ hl ?_
    have : sg false n.natAbs = n := by unfold sg; simp; omega
    rw [this] at hz; exact hz

theorem Sign_callX (ha : NI h a m) (om : (dg m.natAbs).length ≤ 35184372087808) (H : Ki m.sign h) : callP (F.integer_Sign a) Ki h := by
  refine callP_same _ (fun K' hk => ?_) H
  unfold F.integer_Sign
  refine trimN_callX ha om fun y hy => ?_
  have hl := hy.len
  refine ifP_eq (fun h1 => ?_) (fun h1 => ?_)
  · have : m = 0 := len_zero.1 (by omega)
    subst this; exact hk
  · have : m ≠ 0 := fun h0 => h1 (by subst h0; rw [hl]; simp [dg_zero])
    rw [ha.2]
    refine ifP_dec (fun h2 => ?_) (fun h2 => ?_)
    · rw [Int.sign_eq_neg_one_of_neg h2] at hk; exact hk
    · rw [Int.sign_eq_one_of_pos (by omega)] at hk; exact hk
theorem rNorm_callX (ha : NI h a m) (om : (dg m.natAbs).length ≤ 35184372087808) (H : ∀ y, NI h y m → KI y h) : callP (F.ref01_Norm a) KI h := by
  refine callP_rel _ (fun K' hk => ?_) H
  unfold F.ref01_Norm
  refine rsignedN_call ha.1 (Nat.le_trans om (by decide)) fun y hy => hk y ?_
  rw [ha.2, sg_of] at hy; exact hy
theorem rSign_callX (ha : NI h a m) (om : (dg m.natAbs).length ≤ 35184372087808) (H : Ki m.sign h) : callP (F.ref01_Sign a) Ki h := by
  refine callP_same _ (fun K' hk => ?_) H
  unfold F.ref01_Sign
  refine rNorm_callX ha om fun y hy => ?_
  have hl := hy.len
  refine ifP_eq (fun h1 => ?_) (fun h1 => ?_)
  · have : m = 0 := len_zero.1 (by omega)
    subst this; exact hk
  · have : m ≠ 0 := fun h0 => h1 (by subst h0; rw [hl]; simp [dg_zero])
    rw [hy.2]
    refine ifP_dec (fun h2 => ?_) (fun h2 => ?_)
    · rw [Int.sign_eq_neg_one_of_neg h2] at hk; exact hk
    · rw [Int.sign_eq_one_of_pos (by omega)] at hk; exact hk
theorem Sign_call (ha : NI h a m) (om : Ok m) (H : Ki m.sign h) : callP (F.integer_Sign a) Ki h := Sign_callX ha (Nat.le_trans om (by decide)) H
theorem rNorm_call (ha : NI h a m) (om : Ok m) (H : ∀ y, NI h y m → KI y h) : callP (F.ref01_Norm a) KI h := rNorm_callX ha (Nat.le_trans om (by decide)) H
theorem rSign_call (ha : NI h a m) (om : Ok m) (H : Ki m.sign h) : callP (F.ref01_Sign a) Ki h := rSign_callX ha (Nat.le_trans om (by decide)) H

theorem Neg_call (ha : NI h a m) (om : Ok m) (H : ∀ y h', h.le h' → NI h' y (-m) → KI y h') : callP (F.integer_Neg a) KI h := by
  refine callP_of _ (fun K' hk => ?_) H
  unfold F.integer_Neg
  refine trimN_call ha om fun y hy => clone_call hy (Nat.le_trans om (by decide)) fun z h1 hl hz => signedN_call hz (Nat.le_trans om (by decide)) fun w hw => hk _ _ hl ?_
  rw [ha.2, sg_not] at hw; exact hw
theorem rNeg_call (ha : NI h a m) (om : Ok m) (H : ∀ y, NI h y (-m) → KI y h) : callP (F.ref01_Neg a) KI h := by
  refine callP_rel _ (fun K' hk => ?_) H
  unfold F.ref01_Neg
  refine rsignedN_call ha.1 (Nat.le_trans om (by decide)) fun y hy => hk y ?_
  rw [ha.2, sg_not] at hy; exact hy

theorem sg_mul (m n : Int) : sg (!(decide (m < 0) == decide (n < 0))) (m.natAbs * n.natAbs) = m * n := by
  unfold sg
  rw [← Int.natAbs_mul]
  by_cases h1 : m < 0 <;> by_cases h2 : n < 0 <;> simp [h1, h2]
  · have := Int.mul_pos_of_neg_of_neg h1 h2
    omega
  · have := Int.mul_nonpos_of_nonpos_of_nonneg (a := m) (b := n) (by omega) (by omega)
    omega
  · have := Int.mul_nonpos_of_nonneg_of_nonpos (a := m) (b := n) (by omega) (by omega)
    omega
  · have := Int.mul_nonneg (a := m) (b := n) (by omega) (by omega)
    omega
theorem mul_dgk {m n k : Nat} (om : (dg m).length ≤ k) (on : (dg n).length ≤ k) : (dg (m * n)).length ≤ k + k := by
  refine dg_len.2 ?_
  rw [Nat.pow_add]
  exact Nat.mul_lt_mul'' (dg_len.1 om) (dg_len.1 on)
theorem mul_dg {m n : Int} (om : Ok m) (on : Ok n) : (dg (m.natAbs * n.natAbs)).length ≤ 35184372088800 :=
  Nat.le_trans (mul_dgk om on) (by decide)
theorem Mul_call (ha : NI h a m) (hb : NI h b n) (om : Ok m) (on : Ok n) (H : ∀ y h', h.le h' → NI h' y (m * n) → KI y h') : callP (F.integer_Mul a b) KI h := by
  refine callP_of _ (fun K' hk => ?_) H
  unfold F.integer_Mul
  have om' : (dg m.natAbs).length ≤ 8796093022208 := om
  have on' : (dg n.natAbs).length ≤ 8796093022208 := on
  refine trimN_call ha om fun y hy => trimN_call hb on fun z hz => times_call hy hz (ok_dg _) (ok_dg _) (by omega) fun w h1 hl hw => ?_
  rw [vl_dg, vl_dg] at hw
  refine signedN_call hw (mul_dg om on) fun w2 hw2 => hk _ _ hl ?_
  rw [ha.2, hb.2, sg_mul] at hw2; exact hw2
theorem rMul_call (ha : NI h a m) (hb : NI h b n) (om : Ok m) (on : Ok n) (H : ∀ y h', h.le h' → NI h' y (m * n) → KI y h') : callP (F.ref01_Mul a b) KI h := by
  refine callP_of _ (fun K' hk => ?_) H
  unfold F.ref01_Mul
  have om' : (dg m.natAbs).length ≤ 8796093022208 := om
  have on' : (dg n.natAbs).length ≤ 8796093022208 := on
  refine rNorm_call ha om fun y hy => rNorm_call hb on fun z hz => rtimes_call hy.1 hz.1 (ok_dg _) (ok_dg _) (by omega) fun w h1 hl hw => ?_
  rw [vl_dg, vl_dg] at hw
  refine rsignedN_call hw (mul_dg om on) fun w2 hw2 => hk _ _ hl ?_
  rw [hy.2, hz.2, sg_mul] at hw2; exact hw2

theorem dg_mono {m n : Nat} (h : m ≤ n) : (dg m).length ≤ (dg n).length := dg_len.2 (Nat.lt_of_le_of_lt h (dg_len.1 (Nat.le_refl _)))
theorem add_dgk {m n k : Nat} (om : (dg m).length ≤ k) (on : (dg n).length ≤ k) : (dg (m + n)).length ≤ k + 1 := by
  refine dg_len.2 ?_
  have h1 := dg_len.1 om
  have h2 := dg_len.1 on
  rw [Nat.pow_succ]
  have : W ^ k * 2 ≤ W ^ k * W := Nat.mul_le_mul_left _ (by decide)
  omega
theorem add_dg {m n : Nat} (om : (dg m).length ≤ 8796093022208) (on : (dg n).length ≤ 8796093022208) : (dg (m + n)).length ≤ 35184372088800 :=
  Nat.le_trans (add_dgk om on) (by decide)
theorem sg_same {m n : Int} (h : decide (m < 0) = decide (n < 0)) : sg (decide (m < 0)) (m.natAbs + n.natAbs) = m + n := by
  unfold sg
  by_cases h1 : m < 0 <;> by_cases h2 : n < 0 <;> simp [h1, h2] at h ⊢ <;> omega
theorem sg_diff {m n : Int} (h : decide (m < 0) ≠ decide (n < 0)) (hle : n.natAbs ≤ m.natAbs) : sg (decide (m < 0)) (m.natAbs - n.natAbs) = m + n := by
  unfold sg
  by_cases h1 : m < 0 <;> by_cases h2 : n < 0 <;> simp [h1, h2] at h ⊢ <;> omega
theorem sub_dg {m n : Nat} (om : (dg m).length ≤ 8796093022208) : (dg (m - n)).length ≤ 35184372088800 := by
  have := dg_mono (Nat.sub_le m n); omega
theorem Add_call (ha : NI h a m) (hb : NI h b n) (om : Ok m) (on : Ok n) (H : ∀ y h', h.le h' → NI h' y (m + n) → KI y h') : callP (F.integer_Add a b) KI h := by
  refine callP_of _ (fun K' hk => ?_) H
  unfold F.integer_Add
  have om' : (dg m.natAbs).length ≤ 8796093022208 := om
  have on' : (dg n.natAbs).length ≤ 8796093022208 := on
  refine trimN_call ha om fun y hy => trimN_call hb on fun z hz => ?_
  rw [ha.2, hb.2]
  refine ifP_intro (fun h1 => ?_) (fun h1 => ?_)
  · have h1' : decide (m < 0) = decide (n < 0) := by simpa using h1
    refine plus_call hy hz (ok_dg _) (ok_dg _) (by omega) (by omega) fun w h1 r hl hw ok hv hlen => ?_
    rw [vl_dg, vl_dg] at hv
    refine signed_call hw ok (by omega) fun w2 hw2 => hk _ _ hl ?_
    rw [hv, sg_same h1'] at hw2; exact hw2
  · have h1' : decide (m < 0) ≠ decide (n < 0) := by simpa using h1
    refine compare_call hy hz (by omega) (by omega) ?_
    unfold cmpN
    by_cases h2 : m.natAbs < n.natAbs
    · rw [if_pos h2]
      refine ifP_true rfl ?_
      refine minus_call hz hy (ok_dg _) (ok_dg _) (by omega) (dg_mono (by omega)) (by rw [vl_dg, vl_dg]; omega) fun w h1 hl hw => ?_
      rw [vl_dg, vl_dg] at hw
      refine signedN_call hw (sub_dg on') fun w2 hw2 => hk _ _ hl ?_
      rw [sg_diff (fun e => h1' e.symm) (by omega), Int.add_comm] at hw2; exact hw2
    · rw [if_neg h2]
      refine ifP_false (by split <;> rfl) ?_
      refine minus_call hy hz (ok_dg _) (ok_dg _) (by omega) (dg_mono (by omega)) (by rw [vl_dg, vl_dg]; omega) fun w h1 hl hw => ?_
      rw [vl_dg, vl_dg] at hw
      refine signedN_call hw (sub_dg om') fun w2 hw2 => hk _ _ hl ?_
      rw [sg_diff h1' (by omega)] at hw2; exact hw2
theorem rAdd_call (ha : NI h a m) (hb : NI h b n) (om : Ok m) (on : Ok n) (H : ∀ y h', h.le h' → NI h' y (m + n) → KI y h') : callP (F.ref01_Add a b) KI h := by
  refine callP_of _ (fun K' hk => ?_) H
  unfold F.ref01_Add
  have om' : (dg m.natAbs).length ≤ 8796093022208 := om
  have on' : (dg n.natAbs).length ≤ 8796093022208 := on
  refine rNorm_call ha om fun y hy => rNorm_call hb on fun z hz => ?_
  rw [hy.2, hz.2]
  refine ifP_intro (fun h1 => ?_) (fun h1 => ?_)
  · have h1' : decide (m < 0) = decide (n < 0) := by simpa using h1
    refine rplus_call hy.1 hz.1 (ok_dg _) (ok_dg _) (by omega) (by omega) fun w h1 hl hw => ?_
    rw [vl_dg, vl_dg] at hw
    refine rsignedN_call hw (add_dg om' on') fun w2 hw2 => hk _ _ hl ?_
    rw [sg_same h1'] at hw2; exact hw2
  · have h1' : decide (m < 0) ≠ decide (n < 0) := by simpa using h1
    refine rcompare_call hy.1 hz.1 (by omega) (by omega) ?_
    unfold cmpN
    by_cases h2 : m.natAbs < n.natAbs
    · rw [if_pos h2]
      refine ifP_false rfl ?_
      refine rminus_call hz.1 hy.1 (ok_dg _) (ok_dg _) (by omega) (dg_mono (by omega)) (by rw [vl_dg, vl_dg]; omega) fun w h1 hl hw => ?_
      rw [vl_dg, vl_dg] at hw
      refine rsignedN_call hw (sub_dg on') fun w2 hw2 => hk _ _ hl ?_
      rw [sg_diff (fun e => h1' e.symm) (by omega), Int.add_comm] at hw2; exact hw2
    · rw [if_neg h2]
      refine ifP_true (by split <;> rfl) ?_
      refine rminus_call hy.1 hz.1 (ok_dg _) (ok_dg _) (by omega) (dg_mono (by omega)) (by rw [vl_dg, vl_dg]; omega) fun w h1 hl hw => ?_
      rw [vl_dg, vl_dg] at hw
      refine rsignedN_call hw (sub_dg om') fun w2 hw2 => hk _ _ hl ?_
      rw [sg_diff h1' (by omega)] at hw2; exact hw2
theorem Ok.neg {n : Int} (h : Ok n) : Ok (-n) := by unfold Ok at *; rw [Int.natAbs_neg]; exact h
theorem rSub_call (ha : NI h a m) (hb : NI h b n) (om : Ok m) (on : Ok n) (H : ∀ y h', h.le h' → NI h' y (m - n) → KI y h') : callP (F.ref01_Sub a b) KI h := by
  refine callP_of _ (fun K' hk => ?_) H
  unfold F.ref01_Sub
  refine rNeg_call hb on fun y hy => rAdd_call ha hy om on.neg fun z h1 hl hz => hk _ _ hl ?_
  rw [← Int.sub_eq_add_neg] at hz; exact hz
theorem rCmp_call (ha : NI h a m) (hb : NI h b n) (om : Ok m) (on : Ok n) (os : Ok (m - n)) (H : ∀ h', h.le h' → Ki (m - n).sign h') : callP (F.ref01_Cmp a b) Ki h := by
  refine callP_of (fun v _ => v = (m - n).sign) (fun K' hk => ?_) fun v h' hl hv => by subst hv; exact H h' hl
  unfold F.ref01_Cmp
  exact rSub_call ha hb om on fun z h1 hl hz => rSign_call hz os (hk _ _ hl rfl)
theorem sign_cmp {m n : Int} (h : m.sign = n.sign) : m.sign * cmpN m.natAbs n.natAbs = (m - n).sign := by
  unfold cmpN
  rcases Int.lt_trichotomy m 0 with h1 | h1 | h1
  · have h2 : n < 0 := Int.sign_eq_neg_one_iff_neg.1 (by rw [← h]; exact Int.sign_eq_neg_one_of_neg h1)
    rw [Int.sign_eq_neg_one_of_neg h1]
    split
    · rw [Int.sign_eq_one_of_pos (by omega)]; rfl
    · split
      · rw [Int.sign_eq_neg_one_of_neg (by omega)]; rfl
      · have : m = n := by omega
        subst this; simp
  · subst h1
    have h2 : n = 0 := by rw [Int.sign_zero] at h; exact Int.sign_eq_zero_iff_zero.1 h.symm
    subst h2; rfl
  · have h2 : 0 < n := Int.sign_eq_one_iff_pos.1 (by rw [← h]; exact Int.sign_eq_one_of_pos h1)
    rw [Int.sign_eq_one_of_pos h1]
    split
    · rw [Int.sign_eq_neg_one_of_neg (by omega)]; rfl
    · split
      · rw [Int.sign_eq_one_of_pos (by omega)]; rfl
      · have : m = n := by omega
        subst this; simp
theorem sign_range (n : Int) : n.sign = -1 ∧ n < 0 ∨ n.sign = 0 ∧ n = 0 ∨ n.sign = 1 ∧ 0 < n := by
  rcases Int.lt_trichotomy n 0 with h1 | h1 | h1
  · exact .inl ⟨Int.sign_eq_neg_one_of_neg h1, h1⟩
  · subst h1; exact .inr (.inl ⟨rfl, rfl⟩)
  · exact .inr (.inr ⟨Int.sign_eq_one_of_pos h1, h1⟩)
theorem sign_ne {m n : Int} (h : m.sign ≠ n.sign) : (if m.sign < n.sign then (-1 : Int) else if n.sign < m.sign then 1 else 0) = (m - n).sign := by
  have hm := sign_range m
  have hn := sign_range n
  have hd := sign_range (m - n)
  split
  · omega
  · split <;> omega
theorem Cmp_call (ha : NI h a m) (hb : NI h b n) (om : Ok m) (on : Ok n) (H : Ki (m - n).sign h) : callP (F.integer_Cmp a b) Ki h := by
  refine callP_same _ (fun K' hk => ?_) H
  unfold F.integer_Cmp
  have om' : (dg m.natAbs).length ≤ 8796093022208 := om
  have on' : (dg n.natAbs).length ≤ 8796093022208 := on
  refine Sign_call ha om (Sign_call hb on ?_)
  refine ifP_ne (fun h1 => ?_) (fun h1 => ?_)
  · refine cmpInt_call ?_
    rw [sign_ne h1]; exact hk
  · refine trimN_call ha om fun y hy => trimN_call hb on fun z hz => compare_call hy hz (by omega) (by omega) ?_
    rw [sign_cmp h1]
    have := sign_range (m - n)
    rw [w64 (by omega)]; exact hk
end
end Den
end

section
set_option linter.unusedVariables false
namespace Den
open Go Iv

theorem tdivn (a b : Nat) : ((a : Int)).tdiv (b : Int) = ((a / b : Nat) : Int) := (Int.ofNat_tdiv a b).symm
theorem tmodn (a b : Nat) : ((a : Int)).tmod (b : Int) = ((a % b : Nat) : Int) := (Int.ofNat_tmod a b).symm
theorem u32lt {n : Nat} (h : n < W) : IntKind.u32.wrap (n : Int) = (n : Int) := by rw [u32n, Nat.mod_eq_of_lt h]
theorem u64W {n : Nat} (h : n < W) : IntKind.u64.wrap (n : Int) = (n : Int) := u64n (by unfold W at h; omega)

theorem or32k {x y : Nat} (hx : x < W) (hy : y < W) : ibits .or .u32 (x : Int) (y : Int) = ((x ||| y : Nat) : Int) := by
  unfold ibits
  simp only [IntKind.bits]
  have h1 : (BitVec.ofInt 32 (x : Int) ||| BitVec.ofInt 32 (y : Int)).toNat = x ||| y := by
    unfold W at *
    rw [BitVec.ofInt_natCast, BitVec.ofInt_natCast, BitVec.toNat_or, BitVec.toNat_ofNat, BitVec.toNat_ofNat, Nat.mod_eq_of_lt (by omega), Nat.mod_eq_of_lt (by omega)]
  have h2 : x ||| y < W := Nat.or_lt_two_pow (n := 32) hx hy
  exact (congrArg (fun z : Nat => IntKind.u32.wrap (z : Int)) h1).trans (u32lt h2)
theorem or64k {x y : Nat} (hx : x < 18446744073709551616) (hy : y < 18446744073709551616) : ibits .or .u64 (x : Int) (y : Int) = ((x ||| y : Nat) : Int) := by
  unfold ibits
  simp only [IntKind.bits]
  have h1 : (BitVec.ofInt 64 (x : Int) ||| BitVec.ofInt 64 (y : Int)).toNat = x ||| y := by
    rw [BitVec.ofInt_natCast, BitVec.ofInt_natCast, BitVec.toNat_or, BitVec.toNat_ofNat, BitVec.toNat_ofNat, Nat.mod_eq_of_lt (by omega), Nat.mod_eq_of_lt (by omega)]
  have h2 : x ||| y < 18446744073709551616 := Nat.or_lt_two_pow (n := 64) hx hy
  exact (congrArg (fun z : Nat => IntKind.u64.wrap (z : Int)) h1).trans (u64n h2)

/-- The length of a number in bits. -/
def bl (n : Nat) : Nat := if n = 0 then 0 else n.log2 + 1
theorem bl_lt (n : Nat) : n < 2 ^ bl n := by
  unfold bl
  split
  · rename_i h; subst h; decide
  · exact Nat.lt_log2_self
theorem bl_le {n : Nat} (h : n ≠ 0) : 2 ^ (bl n - 1) ≤ n := by
  unfold bl
  rw [if_neg h]
  exact Nat.log2_self_le h
theorem bl_pos {n : Nat} (h : n ≠ 0) : 0 < bl n := by unfold bl; rw [if_neg h]; omega
theorem bl_uniq {n b : Nat} (h1 : 2 ^ b ≤ n) (h2 : n < 2 ^ (b + 1)) : bl n = b + 1 := by
  have h0 : n ≠ 0 := by have := Nat.two_pow_pos b; omega
  unfold bl
  rw [if_neg h0]
  have h3 := (Nat.le_log2 h0 (k := b)).2 h1
  have h4 := (Nat.log2_lt h0 (k := b + 1)).2 h2
  omega
theorem bl_zero : bl 0 = 0 := rfl
theorem bl_le_of {n k : Nat} (h : n < 2 ^ k) : bl n ≤ k := by
  unfold bl
  split
  · omega
  · rename_i h0
    have := (Nat.log2_lt h0 (k := k)).2 h
    omega
/-- The length without the last k bits. -/
theorem bl_shift {n k : Nat} (h : 2 ^ k ≤ n) : bl n = bl (n / 2 ^ k) + k := by
  have h0 : n / 2 ^ k ≠ 0 := by
    have := Nat.div_pos h (Nat.two_pow_pos k); omega
  have h1 := bl_le h0
  have h2 := bl_lt (n / 2 ^ k)
  have h3 := bl_pos h0
  obtain ⟨b, hb⟩ : ∃ b, bl (n / 2 ^ k) = b + 1 := ⟨bl (n / 2 ^ k) - 1, by omega⟩
  rw [hb] at h1 h2 ⊢
  simp only [Nat.add_sub_cancel] at h1
  rw [Nat.le_div_iff_mul_le (Nat.two_pow_pos k), ← Nat.pow_add] at h1
  rw [Nat.div_lt_iff_lt_mul (Nat.two_pow_pos k), ← Nat.pow_add] at h2
  rw [bl_uniq (b := b + k) h1 (by rw [show b + k + 1 = b + 1 + k by omega]; exact h2)]
  omega
theorem bl_half {n : Nat} (h : n ≠ 0) : bl n = bl (n / 2) + 1 := by
  by_cases h1 : n = 1
  · subst h1; decide
  · have := bl_shift (n := n) (k := 1) (by simp; omega)
    simpa using this

section
variable {h : Hp} {x y : Sl} {l m : List Nat} {b : Nat} {Ks : Sl → Hp → Prop} {Ki : Int → Hp → Prop} {Kb : Bool → Hp → Prop} {KI : TInt → Hp → Prop} {Kp : (Sl × Sl) → Hp → Prop} {Kq : (Sl × Int) → Hp → Prop}

/-- One step of the division by a word. -/
theorem word_step {r l : List Nat} {b rem j : Nat} (hj : j < l.length) (hrl : r.length = l.length) (hv : vl (l.drop (j + 1)) = b * vl (r.drop (j + 1)) + rem) :
    vl (l.drop j) = b * vl ((r.set j ((rem * W + l[j]) / b)).drop j) + (rem * W + l[j]) % b := by
  rw [List.drop_eq_getElem_cons (l := l) hj, List.drop_eq_getElem_cons (l := r.set j ((rem * W + l[j]) / b)) (by simpa [hrl] using hj), List.getElem_set_self]
  simp only [vl]
  rw [List.drop_set_of_lt (by omega), hv]
  have e := Nat.div_add_mod (rem * W + l[j]) b
  rw [Nat.mul_add, Nat.mul_add, Nat.mul_comm rem W] at *
  have : W * (b * vl (r.drop (j + 1))) = b * (W * vl (r.drop (j + 1))) := by rw [← Nat.mul_assoc, Nat.mul_comm W b, Nat.mul_assoc]
  omega
theorem word_lt {b rem w : Nat} (hr : rem < b) (hw : w < W) : (rem * W + w) / b < W := by
  rw [Nat.div_lt_iff_lt_mul (by omega)]
  have : (rem + 1) * W ≤ b * W := Nat.mul_le_mul_right _ hr
  rw [Nat.add_mul] at this
  rw [Nat.mul_comm W b]; omega
theorem word_cell {b rem w : Nat} (hr : rem < b) (hb : b < W) (hw : w < W) :
    IntKind.u32.wrap (IntKind.u64.wrap ((ibits .or .u64 (IntKind.u64.wrap ((rem : Int) * 2 ^ (min (32 : Int).toNat IntKind.u64.bits))) (IntKind.u64.wrap (w : Int))).tdiv (IntKind.u64.wrap (b : Int)))) = (((rem * W + w) / b : Nat) : Int) := by
  have h1 := word_lt hr hw
  rw [or32 (by omega) hw, u64W hb, tdivn, u64W h1, u32lt h1]

theorem by_loop {x : Sl} {l : List Nat} {b : Nat} {m1 : Sl} {h h1 : Hp} {Kf : Int → Hp → Prop} (hx : RdW h x l) (ol : okW l) (hb : 0 < b) (hbW : b < W) (hl : l.length ≤ 35184372088800)
    (ho : OwnW h h1 m1 (List.replicate l.length 0)) (H : ∀ h' r, OwnW h h' m1 r → okW r → r.length = l.length → vl r = vl l / b → Kf ((vl l % b : Nat) : Int) h') :
    (loopP (S := Int × Int × Unit) (fun s2 k3 h2 =>
      (ifP (decide (s2.2.1 ≥ 0))
      (0 ≤ (32 : Int) ∧
      (idxP x s2.2.1 1 fun a4 =>
      (ldL (.int .u32) a4 (fun x5 =>
      (((IntKind.u64.wrap ((b : Nat) : Int)) : Int) ≠ 0 ∧
      (idxP m1 s2.2.1 1 fun a6 =>
      (stP a6 [.int .u32 (IntKind.u32.wrap ((IntKind.u64.wrap (((ibits .or .u64 (IntKind.u64.wrap (s2.1 * 2 ^ (min (32 : Int).toNat IntKind.u64.bits))) (IntKind.u64.wrap (x5))) : Int).tdiv (IntKind.u64.wrap ((b : Nat) : Int))))))] (fun h3 =>
      (((IntKind.u64.wrap ((b : Nat) : Int)) : Int) ≠ 0 ∧
      (k3 (((ibits .or .u64 (IntKind.u64.wrap (s2.1 * 2 ^ (min (32 : Int).toNat IntKind.u64.bits))) (IntKind.u64.wrap (x5))) : Int).tmod (IntKind.u64.wrap ((b : Nat) : Int)), (IntKind.i64.wrap (s2.2.1 - 1)), ()) h3))) h2)))) h2)))
      (Kf s2.1 h2)))
      (0, (IntKind.i64.wrap ((x.len : Int) - 1)), ()) h1) := by
  have lx := hx.len
  refine loopP_of (fun st h' => ∃ (k rem : Nat) (r : List Nat), st = ((rem : Int), (k : Int) - 1, ()) ∧ k ≤ l.length ∧ rem < b ∧ OwnW h h' m1 r ∧ okW r ∧ r.length = l.length ∧ vl (l.drop k) = b * vl (r.drop k) + rem)
    (fun st => (st.2.1 + 1).toNat) ⟨l.length, 0, _, by rw [lx, w64 (by omega)]; rfl, Nat.le_refl _, hb, ho, ok_rep _, by simp, by rw [List.drop_eq_nil_of_le (Nat.le_refl _), List.drop_eq_nil_of_le (by simp)]; rfl⟩ ?_
  rintro st h2 ⟨k, rem, r, rfl, hk, hrem, ho2, okr, hrl, hv⟩
  refine ifP_dec (fun h3 => ?_) (fun h3 => ?_)
  · obtain ⟨j, rfl⟩ : ∃ j, k = j + 1 := ⟨k - 1, by have : (k : Int) - 1 ≥ 0 := h3; omega⟩
    have hj : j < l.length := by omega
    have hw := ok_get ol hj
    have hne : IntKind.u64.wrap (b : Int) ≠ 0 := by rw [u64W hbW]; omega
    have hji : ((j + 1 : Nat) : Int) - 1 = (j : Int) := by omega
    simp only [hji]
    refine ⟨by decide, rd_word j (hx.le ho2.1) rfl hj fun a ha => ⟨_, ha, hne, ?_⟩⟩
    refine st_word j _ ho2 rfl (by omega) (word_cell hrem hbW hw) fun h5 b5 _ _ _ ho5 => ⟨hne, ?_⟩
    rw [or32 (by omega) hw, u64W hbW, tmodn]
    refine ⟨⟨j, _, _, by rw [w64 (by omega)], by omega, Nat.mod_lt _ hb, ho5, ok_set okr (word_lt hrem hw), by simp [hrl], word_step hj hrl hv⟩, by rw [w64 (by omega)]; omega⟩
  · obtain rfl : k = 0 := by have : ¬ (k : Int) - 1 ≥ 0 := h3; omega
    simp only [List.drop_zero] at hv
    have e1 : vl l / b = vl r := by rw [hv, Nat.mul_add_div hb, Nat.div_eq_of_lt hrem]; omega
    have e2 : vl l % b = rem := by rw [hv, Nat.mul_add_mod, Nat.mod_eq_of_lt hrem]
    have := H h2 r ho2 okr hrl e1.symm
    rw [e2] at this
    exact this
theorem divideWord_call (hx : RdW h x l) (ol : okW l) (hb : 0 < b) (hbW : b < W) (hl : l.length ≤ 35184372088800)
    (H : ∀ z w h', h.le h' → RdW h' z (dg (vl l / b)) → RdW h' w (dg (vl l % b)) → Kp (z, w) h') : callP (F.integer_divideWord x b) Kp h := by
  refine callP_of (fun v h' => RdW h' v.1 (dg (vl l / b)) ∧ RdW h' v.2 (dg (vl l % b))) (fun K' hk => ?_) fun ⟨z, w⟩ h' hl hz => H z w h' hl hz.1 hz.2
  unfold F.integer_divideWord
  have lx := hx.len
  refine mk_word l.length l.length (by omega) (by omega) (by omega) (by omega) fun m1 h1 hw hw2 => ?_
  refine by_loop (Kf := fun (s : Int) h2 => callP (F.integer_trim m1) (fun r7 h4 => callP (F.integer_fromUint s) (fun r8 h5 => K' (r7, r8) h5) h4) h2) hx ol hb hbW hl hw2 fun h3 r ho okr hrl hv => ?_
  refine trim_call ho.rdW (by omega) fun z hz => ?_
  rw [trim_eq okr, hv] at hz
  have := Nat.mod_lt (vl l) hb
  refine fromUint_call rfl (by unfold W at hbW; omega) fun w h4 hl4 hw4 => hk _ _ (Hp.le_trans ho.1 hl4) ⟨hz.le hl4, hw4⟩
theorem by_call (hx : RdW h x l) (ol : okW l) (hb : 0 < b) (hbW : b < W) (hl : l.length ≤ 35184372088800)
    (H : ∀ z h', h.le h' → RdW h' z (dg (vl l / b)) → Kq (z, ((vl l % b : Nat) : Int)) h') : callP (F.ref01_by x b) Kq h := by
  refine callP_of (fun v h' => RdW h' v.1 (dg (vl l / b)) ∧ v.2 = ((vl l % b : Nat) : Int)) (fun K' hk => ?_) fun ⟨z, w⟩ h' hl hz => by
    obtain ⟨h1, h2⟩ := hz
    simp only at h1 h2
    subst h2
    exact H z h' hl h1
  unfold F.ref01_by
  have lx := hx.len
  refine mk_word l.length l.length (by omega) (by omega) (by omega) (by omega) fun m1 h1 hw hw2 => ?_
  refine by_loop (Kf := fun (s : Int) h2 => callP (F.ref01_trim m1) (fun r7 h4 => K' (r7, IntKind.u32.wrap s) h4) h2) hx ol hb hbW hl hw2 fun h3 r ho okr hrl hv => ?_
  refine rtrim_call ho.rdW (by omega) fun z hz => ?_
  rw [trim_eq okr, hv] at hz
  have := Nat.mod_lt (vl l) hb
  exact hk _ _ ho.1 ⟨hz, u32lt (by omega)⟩

theorem minpow {s : Nat} (hs : s ≤ 32) : (2 : Int) ^ (min ((s : Int)).toNat IntKind.u64.bits) = ((2 ^ s : Nat) : Int) := by
  have : min ((s : Int)).toNat IntKind.u64.bits = s := by show min s 64 = s; omega
  rw [this]; simp
theorem minpow32 {s : Nat} (hs : s ≤ 32) : (2 : Int) ^ (min ((s : Int)).toNat IntKind.u32.bits) = ((2 ^ s : Nat) : Int) := by
  have : min ((s : Int)).toNat IntKind.u32.bits = s := by show min s 32 = s; omega
  rw [this]; simp
theorem pow_le_W {s : Nat} (hs : s ≤ 32) : 2 ^ s ≤ W := by
  show 2 ^ s ≤ 2 ^ 32
  exact Nat.pow_le_pow_right (by decide) hs
theorem pow_split {s : Nat} (hs : s ≤ 32) : 2 ^ s * 2 ^ (32 - s) = W := by
  rw [← Nat.pow_add, show s + (32 - s) = 32 by omega]; rfl
theorem shl_val {s w : Nat} (hs : s ≤ 32) (hw : w < W) : IntKind.u64.wrap (IntKind.u64.wrap (w : Int) * 2 ^ (min ((s : Int)).toNat IntKind.u64.bits)) = ((w * 2 ^ s : Nat) : Int) := by
  rw [minpow hs, u64W hw, show ((w : Int) * ((2 ^ s : Nat) : Int)) = ((w * 2 ^ s : Nat) : Int) by simp]
  refine u64n ?_
  have h1 := pow_le_W hs
  have : w * 2 ^ s < W * W := Nat.mul_lt_mul_of_lt_of_le hw h1 W_pos
  unfold W at this; omega
/-- The low word of a shifted word ends in zeros. -/
theorem shl_low {s w : Nat} (hs : s ≤ 32) : w * 2 ^ s % W = 2 ^ s * (w % 2 ^ (32 - s)) := by
  rw [← pow_split hs, Nat.mul_comm w, Nat.mul_mod_mul_left]
theorem shl_high {s w : Nat} (hs : s ≤ 32) (hw : w < W) : w * 2 ^ s / W < 2 ^ s := by
  rw [Nat.div_lt_iff_lt_mul W_pos, Nat.mul_comm]
  exact Nat.mul_lt_mul_of_pos_left hw (Nat.two_pow_pos s)
theorem or_low {s c w : Nat} (hs : s ≤ 32) (hc : c < 2 ^ s) : c ||| (w * 2 ^ s % W) = c + w * 2 ^ s % W := by
  rw [shl_low hs, Nat.or_comm, ← Nat.two_pow_add_eq_or_of_lt hc, Nat.add_comm]
theorem or_lt {s c w : Nat} (hs : s ≤ 32) (hc : c < 2 ^ s) : c + w * 2 ^ s % W < W := by
  rw [← or_low hs hc]
  exact Nat.or_lt_two_pow (n := 32) (Nat.lt_of_lt_of_le hc (pow_le_W hs)) (Nat.mod_lt _ W_pos)

theorem shl_of {s : Nat} (hx : RdW h x l) (ol : okW l) (hs : s ≤ 31) (hl : l.length ≤ 35184372088800)
    (H : ∀ z h' r, OwnW h h' z r → okW r → r.length = l.length + 1 → vl r = vl l * 2 ^ s → Ks z h') : F.integer_shiftLeft x (s : Int) Ks h := by
  unfold F.integer_shiftLeft
  have lx := hx.len
  refine mk_word (l.length + 1) (l.length + 1) (by rw [w64 (by omega)]; omega) (by rw [w64 (by omega)]; omega) (by omega) (by omega) fun m1 h1 hw hw2 => ?_
  refine loopP_of (fun st h' => ∃ (i : Nat) (r : List Nat), st = ((i : Int), ()) ∧ i ≤ l.length ∧ OwnW h h' m1 r ∧ okW r ∧ r.length = l.length + 1 ∧ (∃ hi : i < r.length, r[i] < 2 ^ s) ∧ vl (r.take (i + 1)) = vl (l.take i) * 2 ^ s)
    (fun st => ((l.length : Int) - st.1).toNat) ⟨0, _, rfl, Nat.zero_le _, hw2, ok_rep _, by simp, ⟨by simp, by simpa using Nat.two_pow_pos s⟩, by rw [vl_take_succ (by simp)]; simp [vl]⟩ ?_
  rintro st h2 ⟨i, r, rfl, hi, ho, okr, hrl, ⟨hi1, hc⟩, hv⟩
  refine ifP_dec (fun h3 => ?_) (fun h3 => ?_)
  · have hi' : i < l.length := by have : (i : Int) < (x.len : Int) := h3; omega
    have hw := ok_get ol hi'
    refine rd_word i (hx.le ho.1) rfl hi' fun a ha => ⟨_, ha, by omega, ?_⟩
    refine rd_word i ho.rdW rfl hi1 fun a2 ha2 => ⟨_, ha2, ?_⟩
    rw [shl_val (by omega) hw, u32n]
    have e1 := or_low (w := l[i]) (by omega) hc
    have e2 := or_lt (w := l[i]) (by omega) hc
    refine st_word i (r[i] + l[i] * 2 ^ s % W) ho rfl hi1 ?_ fun h5 b5 _ _ _ ho5 => ⟨by decide, ?_⟩
    · rw [or32k (ok_get okr hi1) (Nat.mod_lt _ W_pos), e1]
    · rw [shr32]
      have e3 := shl_high (s := s) (by omega) hw
      have e4 : l[i] * 2 ^ s / W < W := Nat.lt_of_lt_of_le e3 (pow_le_W (by omega))
      refine st_word (i + 1) (l[i] * 2 ^ s / W) ho5 (by rw [w64 (by omega)]; rfl) (by simp; omega) (u32lt e4) fun h6 b6 _ _ _ ho6 => ?_
      have hlen : i + 1 < ((r.set i (r[i] + l[i] * 2 ^ s % W)).set (i + 1) (l[i] * 2 ^ s / W)).length := by simp; omega
      refine ⟨⟨i + 1, _, by rw [w64 (by omega)]; rfl, by omega, ho6, ok_set (ok_set okr e2) e4, by simp [hrl], ⟨hlen, by rw [List.getElem_set_self]; exact e3⟩, ?_⟩, by rw [w64 (by omega)]; omega⟩
      rw [vl_set_take (by simp; omega), vl_set_take hi1, vl_take_succ hi', Nat.add_mul, ← hv, vl_take_succ hi1, Nat.pow_succ, Nat.mul_add]
      have e := Nat.mod_add_div (l[i] * 2 ^ s) W
      have e5 := congrArg (W ^ i * ·) e
      simp only [Nat.mul_add] at e5
      rw [Nat.mul_assoc, Nat.mul_assoc]
      omega
  · have hi' : i = l.length := by have : ¬ (i : Int) < (x.len : Int) := h3; omega
    subst hi'
    rw [List.take_of_length_le (l := l) (Nat.le_refl _), List.take_of_length_le (by omega)] at hv
    exact H _ _ r ho okr hrl hv
theorem shl_call {s : Nat} (hx : RdW h x l) (ol : okW l) (hs : s ≤ 31) (hl : l.length ≤ 35184372088800)
    (H : ∀ z h' r, OwnW h h' z r → okW r → r.length = l.length + 1 → vl r = vl l * 2 ^ s → Ks z h') : callP (F.integer_shiftLeft x (s : Int)) Ks h :=
  callP_of (fun z h' => ∃ r, OwnW h h' z r ∧ okW r ∧ r.length = l.length + 1 ∧ vl r = vl l * 2 ^ s) (fun K' hk => shl_of hx ol hs hl fun z h' r h1 h2 h3 h4 => hk z h' h1.1 ⟨r, h1, h2, h3, h4⟩) fun z h' _ ⟨r, h1, h2, h3, h4⟩ => H z h' r h1 h2 h3 h4
theorem rshl_call {s : Nat} (hx : RdW h x l) (ol : okW l) (hs : s ≤ 31) (hl : l.length ≤ 35184372088800)
    (H : ∀ z h' r, OwnW h h' z r → okW r → r.length = l.length + 1 → vl r = vl l * 2 ^ s → Ks z h') : callP (F.ref01_shifted x (s : Int)) Ks h :=
  shl_call hx ol hs hl H

/-- The word of a number that was shifted to the right. -/
theorem shr_word {s u v : Nat} (hs : s ≤ 32) (hu : u < W) : (u / 2 ^ s) ||| (v * 2 ^ (32 - s) % W) = u / 2 ^ s + 2 ^ (32 - s) * (v % 2 ^ s) := by
  have h1 : u / 2 ^ s < 2 ^ (32 - s) := by
    rw [Nat.div_lt_iff_lt_mul (Nat.two_pow_pos s), Nat.mul_comm, pow_split hs]; exact hu
  rw [or_low (by omega) h1, shl_low (by omega), show 32 - (32 - s) = s by omega]
theorem shr_lt {s u v : Nat} (hs : s ≤ 32) (hu : u < W) : u / 2 ^ s + 2 ^ (32 - s) * (v % 2 ^ s) < W := by
  rw [← shr_word hs hu]
  exact Nat.or_lt_two_pow (n := 32) (Nat.lt_of_le_of_lt (Nat.div_le_self _ _) hu) (Nat.mod_lt _ W_pos)
/-- One step of a shift to the right. -/
theorem shr_step {r l : List Nat} {s i z0 : Nat} (hs : s ≤ 32) (hi : i < l.length) (hrl : r.length = l.length)
    (hv : 2 ^ s * vl (r.take i) + z0 = vl (l.take i) + W ^ i * (l.getD i 0 % 2 ^ s)) :
    2 ^ s * vl ((r.set i (l[i] / 2 ^ s + 2 ^ (32 - s) * (l.getD (i + 1) 0 % 2 ^ s))).take (i + 1)) + z0 = vl (l.take (i + 1)) + W ^ (i + 1) * (l.getD (i + 1) 0 % 2 ^ s) := by
  rw [vl_set_take (by omega), vl_take_succ hi]
  rw [getD_get hi] at hv
  have e := Nat.div_add_mod l[i] (2 ^ s)
  have p := pow_split hs
  rw [Nat.pow_succ]
  generalize l.getD (i + 1) 0 % 2 ^ s = A at *
  generalize 2 ^ (32 - s) = Q at *
  generalize 2 ^ s = S at *
  generalize W ^ i = P at *
  generalize l[i] % S = B at *
  generalize l[i] / S = C at *
  generalize l[i] = D at *
  generalize vl (r.take i) = R at *
  generalize vl (l.take i) = L at *
  rw [← p, ← e]
  clear hrl hi hs e p
  grind
theorem shr_end {r l : List Nat} {s : Nat} (hrl : r.length = l.length) (hv : 2 ^ s * vl (r.take l.length) + l.getD 0 0 % 2 ^ s = vl (l.take l.length) + W ^ l.length * (l.getD l.length 0 % 2 ^ s)) : vl r = vl l / 2 ^ s := by
  rw [List.take_of_length_le (l := r) (by omega), List.take_of_length_le (Nat.le_refl _), getD_none (Nat.le_refl _), Nat.zero_mod, Nat.mul_zero, Nat.add_zero] at hv
  rw [← hv, Nat.mul_add_div (Nat.two_pow_pos s), Nat.div_eq_of_lt (Nat.mod_lt _ (Nat.two_pow_pos s)), Nat.add_zero]

theorem shr_val {s w : Nat} (hs : s ≤ 32) : ((w : Int)).fdiv (2 ^ (min ((s : Int)).toNat IntKind.u32.bits)) = ((w / 2 ^ s : Nat) : Int) := by
  rw [minpow32 hs]
  exact (Int.ofNat_fdiv w (2 ^ s)).symm
theorem shr_val64 {s w : Nat} (hs : s ≤ 32) : ((w : Int)).fdiv (2 ^ (min ((s : Int)).toNat IntKind.u64.bits)) = ((w / 2 ^ s : Nat) : Int) := by
  rw [minpow hs]
  exact (Int.ofNat_fdiv w (2 ^ s)).symm

theorem shr_call {s : Nat} (hx : RdW h x l) (ol : okW l) (hs : s ≤ 31) (hl : l.length ≤ 35184372088800)
    (H : ∀ z h' r, h.le h' → RdW h' z r → okW r → r.length = l.length → vl r = vl l / 2 ^ s → Ks z h') : callP (F.integer_shiftRight x (s : Int)) Ks h := by
  refine callP_of (fun z h' => ∃ r, RdW h' z r ∧ okW r ∧ r.length = l.length ∧ vl r = vl l / 2 ^ s) (fun K' hk => ?_) fun z h' hl ⟨r, h1, h2, h3, h4⟩ => H z h' r hl h1 h2 h3 h4
  unfold F.integer_shiftRight
  have lx := hx.len
  refine mk_word l.length l.length (by omega) (by omega) (by omega) (by omega) fun m1 h1 hw hw2 => ?_
  refine loopP_of (fun st h' => ∃ (i : Nat) (r : List Nat), st = ((i : Int), ()) ∧ i ≤ l.length ∧ OwnW h h' m1 r ∧ okW r ∧ r.length = l.length ∧ 2 ^ s * vl (r.take i) + l.getD 0 0 % 2 ^ s = vl (l.take i) + W ^ i * (l.getD i 0 % 2 ^ s))
    (fun st => ((l.length : Int) - st.1).toNat) ⟨0, _, rfl, Nat.zero_le _, hw2, ok_rep _, by simp, by simp [vl]⟩ ?_
  rintro st h2 ⟨i, r, rfl, hi, ho, okr, hrl, hv⟩
  refine ifP_dec (fun h3 => ?_) (fun h3 => ?_)
  · have hi' : i < l.length := by have : (i : Int) < (x.len : Int) := h3; omega
    have hw := ok_get ol hi'
    have e2 := shr_lt (s := s) (v := l.getD (i + 1) 0) (by omega) hw
    have e3 := shr_step (by omega) hi' hrl hv
    refine joinP_inv (fun _ h' => ∃ r', OwnW h h' m1 r' ∧ r' = r.set i (l[i] / 2 ^ s + 2 ^ (32 - s) * (l.getD (i + 1) 0 % 2 ^ s))) ?_ ?_
    · rintro _ h4 ⟨r', ho4, rfl⟩
      exact ⟨⟨i + 1, _, by rw [w64 (by simp only; omega)]; rfl, by omega, ho4, ok_set okr e2, by simp [hrl], e3⟩, by simp only; rw [w64 (by omega)]; omega⟩
    · refine rd_word i (hx.le ho.1) rfl hi' fun a ha => ⟨_, ha, by omega, ?_⟩
      refine st_word i (l[i] / 2 ^ s) ho rfl (by omega) (shr_val (by omega)) fun h5 b5 _ _ _ ho5 => ?_
      have wi : IntKind.i64.wrap ((i : Int) + 1) = ((i + 1 : Nat) : Int) := by rw [w64 (by omega)]; rfl
      have ws : IntKind.i64.wrap (32 - (s : Int)) = ((32 - s : Nat) : Int) := by rw [w64 (by omega)]; omega
      simp only [wi, ws]
      refine ifP_dec (fun h6 => ?_) (fun h6 => ?_)
      · have hi2 : i + 1 < l.length := by omega
        have hw2 := ok_get ol hi2
        refine rd_word i ho5.rdW rfl (by simp; omega) fun a2 ha2 => ⟨_, ha2, ?_⟩
        refine rd_word (i + 1) (hx.le ho5.1) rfl hi2 fun a3 ha3 => ⟨_, ha3, by omega, ?_⟩
        rw [shl_val (by omega) hw2, u32n, List.getElem_set_self, or32k (Nat.lt_of_le_of_lt (Nat.div_le_self _ _) hw) (Nat.mod_lt _ W_pos), shr_word (by omega) hw]
        refine st_word i _ ho5 rfl (by simp; omega) rfl fun h7 b7 _ _ _ ho7 => ⟨_, ho7, ?_⟩
        rw [List.set_set, getD_get hi2]
      · have hi2 : l.length ≤ i + 1 := by omega
        refine ⟨_, ho5, ?_⟩
        rw [getD_none hi2]
        simp
  · have hi' : i = l.length := by have : ¬ (i : Int) < (x.len : Int) := h3; omega
    subst hi'
    exact hk _ _ ho.1 ⟨r, ho.rdW, okr, hrl, shr_end hrl hv⟩

theorem back_val {s u v : Nat} (hs : s ≤ 31) (hu : u < W) (hv : v < W) : IntKind.u32.wrap ((((v * W + u : Nat) : Int)).fdiv (2 ^ (min ((s : Int)).toNat IntKind.u64.bits))) = ((u / 2 ^ s + 2 ^ (32 - s) * (v % 2 ^ s) : Nat) : Int) := by
  rw [shr_val64 (by omega), u32n]
  have e : (v * W + u) / 2 ^ s = u / 2 ^ s + v * 2 ^ (32 - s) := by
    rw [← pow_split (s := s) (by omega)]
    rw [show v * (2 ^ s * 2 ^ (32 - s)) = 2 ^ s * (v * 2 ^ (32 - s)) by rw [← Nat.mul_assoc, Nat.mul_comm v, Nat.mul_assoc]]
    rw [Nat.mul_add_div (Nat.two_pow_pos s), Nat.add_comm]
  rw [e, Nat.add_mod, shl_low (by omega), show 32 - (32 - s) = s by omega]
  have h1 := shr_lt (s := s) (v := v) (by omega) hu
  rw [Nat.mod_eq_of_lt (a := u / 2 ^ s) (Nat.lt_of_le_of_lt (Nat.div_le_self _ _) hu), Nat.mod_eq_of_lt h1]
theorem back_call {s : Nat} (hx : RdW h x l) (ol : okW l) (hs : s ≤ 31) (hl : l.length ≤ 35184372088800)
    (H : ∀ z h', h.le h' → RdW h' z (dg (vl l / 2 ^ s)) → Ks z h') : callP (F.ref01_back x (s : Int)) Ks h := by
  refine callP_of _ (fun K' hk => ?_) H
  unfold F.ref01_back
  have lx := hx.len
  refine mk_word l.length l.length (by omega) (by omega) (by omega) (by omega) fun m1 h1 hw hw2 => ?_
  refine loopP_of (fun st h' => ∃ (i : Nat) (r : List Nat), st = ((i : Int), ()) ∧ i ≤ l.length ∧ OwnW h h' m1 r ∧ okW r ∧ r.length = l.length ∧ 2 ^ s * vl (r.take i) + l.getD 0 0 % 2 ^ s = vl (l.take i) + W ^ i * (l.getD i 0 % 2 ^ s))
    (fun st => ((l.length : Int) - st.1).toNat) ⟨0, _, rfl, Nat.zero_le _, hw2, ok_rep _, by simp, by simp [vl]⟩ ?_
  rintro st h2 ⟨i, r, rfl, hi, ho, okr, hrl, hv⟩
  refine ifP_dec (fun h3 => ?_) (fun h3 => ?_)
  · have hi' : i < l.length := by have : (i : Int) < (x.len : Int) := h3; omega
    have hw := ok_get ol hi'
    have hw1 := getD_lt ol (i + 1)
    have e2 := shr_lt (s := s) (v := l.getD (i + 1) 0) (by omega) hw
    have e3 := shr_step (by omega) hi' hrl hv
    have wi : IntKind.i64.wrap ((i : Int) + 1) = ((i + 1 : Nat) : Int) := by rw [w64 (by omega)]; rfl
    refine rd_word i (hx.le ho.1) rfl hi' fun a ha => ⟨_, ha, ?_⟩
    refine joinP_inv (fun s h' => h' = h2 ∧ s = (((l.getD (i + 1) 0 * W + l[i] : Nat) : Int), ())) ?_ ?_
    · rintro _ h4 ⟨rfl, rfl⟩
      refine ⟨by omega, ?_⟩
      simp only
      rw [back_val hs hw hw1]
      refine st_word i _ ho rfl (by omega) rfl fun h5 b5 _ _ _ ho5 => ?_
      exact ⟨⟨i + 1, _, by rw [wi], by omega, ho5, ok_set okr e2, by simp [hrl], e3⟩, by rw [wi]; omega⟩
    · simp only [wi]
      refine ifP_dec (fun h6 => ?_) (fun h6 => ?_)
      · have hi2 : i + 1 < l.length := by omega
        refine rd_word (i + 1) (hx.le ho.1) rfl hi2 fun a3 ha3 => ⟨_, ha3, by omega, by trivial, ?_⟩
        rw [getD_get hi2] at hw1 ⊢
        congr 1
        rw [u64W hw, show (IntKind.u64.wrap (l[i + 1] : Int)) = (l[i + 1] : Int) from u64W hw1]
        have e5 : IntKind.u64.wrap ((l[i + 1] : Int) * 2 ^ (min (32 : Int).toNat IntKind.u64.bits)) = ((l[i + 1] * 2 ^ 32 : Nat) : Int) := by
          have := shl_val (s := 32) (by omega) hw1
          rw [u64W hw1] at this
          exact this
        rw [e5, or64k (by unfold W at *; omega) (by unfold W at *; omega), Nat.or_comm, Nat.mul_comm, ← Nat.two_pow_add_eq_or_of_lt hw]
        unfold W
        congr 1
        omega
      · have hi2 : l.length ≤ i + 1 := by omega
        refine ⟨by trivial, ?_⟩
        rw [getD_none hi2, u64W hw]
        simp
  · have hi' : i = l.length := by have : ¬ (i : Int) < (x.len : Int) := h3; omega
    subst hi'
    refine rtrim_call ho.rdW (by omega) fun z hz => ?_
    rw [trim_eq okr, shr_end hrl hv] at hz
    exact hk _ _ ho.1 hz
end
end Den
end

section
set_option linter.unusedVariables false
namespace Iv

/-- An estimate that is too great can be lowered. -/
theorem knuth_down {X V P w v1 v2 u num qh rh : Nat} (hX : X < (num * w + u + 1) * P) (hV : (v1 * w + v2) * P ≤ V) (hV0 : 0 < V) (hnum : qh * v1 + rh = num)
    (hlt : X < V * w) (hc : w ≤ qh ∨ rh * w + u < qh * v2) : X / V < qh := by
  rw [Nat.div_lt_iff_lt_mul hV0]
  rcases hc with hc | hc
  · exact Nat.lt_of_lt_of_le hlt (by rw [Nat.mul_comm]; exact Nat.mul_le_mul_right _ hc)
  · have h1 : num * w + u + 1 ≤ qh * (v1 * w + v2) := by
      rw [← hnum, Nat.mul_add, Nat.add_mul, ← Nat.mul_assoc]; omega
    have h2 : (num * w + u + 1) * P ≤ qh * ((v1 * w + v2) * P) := by
      rw [← Nat.mul_assoc]; exact Nat.mul_le_mul_right _ h1
    have h3 : qh * ((v1 * w + v2) * P) ≤ qh * V := Nat.mul_le_mul_left _ hV
    omega
theorem knuth_exit {X V P w v1 v2 u num qh rh un un1 : Nat} (hw : 1 < w) (hX : (num * w + u) * P ≤ X) (hV : V < (v1 * w + v2 + 1) * P) (hV0 : 0 < V) (hP : 0 < P) (hnum : qh * v1 + rh = num) (hn : num = un * w + un1)
    (hv1 : w ≤ 2 * v1) (hun : un ≤ v1) (hun1 : un1 < w) (hv2 : v2 < w) (hu : u < w)
    (hc : w ≤ rh ∨ (qh < w ∧ qh * v2 ≤ rh * w + u)) : qh < w ∧ qh ≤ X / V + 1 := by
  have hv1p : 0 < v1 := by omega
  have h1 : qh < w := by
    rcases hc with hc | hc
    · have h2 : un * w ≤ v1 * w := Nat.mul_le_mul_right _ hun
      have h3 : qh * v1 < w * v1 := by rw [Nat.mul_comm w v1]; omega
      exact Nat.lt_of_mul_lt_mul_right h3
    · exact hc.1
  refine ⟨h1, ?_⟩
  have h2 : qh * v2 ≤ rh * w + u := by
    rcases hc with hc | hc
    · have a1 : qh * v2 ≤ w * w := Nat.mul_le_mul (by omega) (by omega)
      have a2 : w * w ≤ rh * w := Nat.mul_le_mul_right _ hc
      omega
    · exact hc.2
  have h3 : qh * (v1 * w + v2) ≤ num * w + u := by
    rw [← hnum, Nat.mul_add, Nat.add_mul, ← Nat.mul_assoc]; omega
  rcases Nat.eq_zero_or_pos qh with h0 | h0
  · rw [h0]; exact Nat.zero_le _
  obtain ⟨q1, rfl⟩ : ∃ q1, qh = q1 + 1 := ⟨qh - 1, by omega⟩
  have h4 : q1 * (v1 * w + v2 + 1) ≤ num * w + u := by
    rw [Nat.mul_add, Nat.mul_one]
    rw [Nat.add_mul] at h3
    have : w ≤ v1 * w := Nat.le_mul_of_pos_left _ hv1p
    omega
  have h5 : q1 * V ≤ X := by
    have a1 : q1 * V ≤ q1 * ((v1 * w + v2 + 1) * P) := Nat.mul_le_mul_left _ (Nat.le_of_lt hV)
    have a2 : q1 * ((v1 * w + v2 + 1) * P) ≤ (num * w + u) * P := by
      rw [← Nat.mul_assoc]; exact Nat.mul_le_mul_right _ h4
    omega
  exact Nat.succ_le_succ ((Nat.le_div_iff_mul_le hV0).2 h5)
/-- The two highest words of a number. -/
theorem top2 {l : List Nat} (ok : okW l) {n : Nat} (hl : l.length = n + 2) : ∃ P lo, P = W ^ n ∧ lo < P ∧ vl l = (l.getD (n + 1) 0 * W + l.getD n 0) * P + lo ∧ lo = vl (l.take n) := by
  refine ⟨W ^ n, vl (l.take n), rfl, ?_, ?_, rfl⟩
  · have := vl_lt (ok_take ok n)
    rw [List.length_take, Nat.min_eq_left (by omega)] at this
    exact this
  · have e1 := Den.vl_takeD l n
    have e2 := Den.vl_takeD l (n + 1)
    rw [List.take_of_length_le (by omega)] at e2
    rw [e2, e1, Nat.pow_succ, Nat.add_mul, Nat.mul_assoc (l.getD (n + 1) 0), Nat.mul_comm (W ^ n) W, Nat.mul_comm (l.getD (n + 1) 0), Nat.mul_comm (l.getD n 0)]
    omega
theorem top3 {l : List Nat} (ok : okW l) {n : Nat} (hl : l.length = n + 3) : ∃ P lo, P = W ^ n ∧ lo < P ∧ vl l = ((l.getD (n + 2) 0 * W + l.getD (n + 1) 0) * W + l.getD n 0) * P + lo := by
  obtain ⟨P, lo, h1, h2, h3, h4⟩ := top2 ok (n := n + 1) (by omega)
  refine ⟨W ^ n, vl (l.take n), rfl, ?_, ?_⟩
  · have := vl_lt (ok_take ok n)
    rw [List.length_take, Nat.min_eq_left (by omega)] at this
    exact this
  · rw [h3, h4, Den.vl_takeD, h1, Nat.pow_succ]
    have : (l.getD (n + 2) 0 * W + l.getD (n + 1) 0) * (W ^ n * W) = (l.getD (n + 2) 0 * W + l.getD (n + 1) 0) * W * W ^ n := by
      rw [Nat.mul_comm (W ^ n) W, Nat.mul_assoc]
    rw [this, Nat.add_mul _ (l.getD n 0), Nat.mul_comm (l.getD n 0)]
    omega
theorem vl_drop_zero {l : List Nat} (ok : okW l) {a b : Nat} (h : vl (l.drop a) < W ^ b) : vl (l.drop (a + b)) = 0 := by
  rcases Nat.lt_or_ge (l.drop a).length b with h1 | h1
  · rw [List.drop_eq_nil_of_le (by rw [List.length_drop] at h1; omega)]; rfl
  · have := vl_take_drop (l := l.drop a) (k := b) h1
    rw [List.drop_drop] at this
    rcases Nat.eq_zero_or_pos (vl (l.drop (a + b))) with h2 | h2
    · exact h2
    · have : W ^ b ≤ W ^ b * vl (l.drop (a + b)) := Nat.le_mul_of_pos_right _ h2
      omega
end Iv
namespace Den
open Go Iv

theorem LeX.refl {b : Nat} {h : Hp} : LeX b h h := fun _ _ _ hk => hk
theorem LeX.trans {b : Nat} {h h1 h2 : Hp} (x : LeX b h h1) (y : LeX b h1 h2) : LeX b h h2 := fun k B hne hk => y k B hne (x k B hne hk)

/-- A cell of a part of a slice. -/
theorem idxP_cut {x : Sl} {j e : Nat} {i : Int} {k : Nat} {F : Addr → Prop} (hi : i = k) (hk : k < e - j) (he : e ≤ x.cap) (H : idxP x ((j + k : Nat) : Int) 1 F) : idxP (x.cut j e 1) i 1 F := by
  subst hi
  obtain ⟨_, _, h3⟩ := H
  refine ⟨by omega, ?_, ?_⟩
  · show (k : Int) < ((e - j : Nat) : Int); omega
  · have : (x.cut j e 1).a = x.a.map (·.add (j * 1)) := by show (if x.cap = j then _ else _) = _; rw [if_neg (by omega)]
    rw [this]
    cases ha : x.a with
    | none => rw [ha] at h3; exact h3
    | some a =>
      rw [ha] at h3
      simp only [ptrK, Option.map_some] at h3 ⊢
      rw [addr_add_add]
      have e1 : (((j + k : Nat) : Int)).toNat = j + k := rfl
      have e2 : ((k : Int)).toNat = k := rfl
      rw [e1] at h3
      rw [e2]
      rw [show j * 1 + k * 1 = (j + k) * 1 by omega]
      exact h3
theorem slP_of {x : Sl} {lo hi : Int} {K : Sl → Prop} (a b : Nat) (ha : lo = a) (hb : hi = b) (hab : a ≤ b) (hc : b ≤ x.cap) (H : K (x.cut a b 1)) : slP x lo hi 1 K := by
  subst ha hb
  exact ⟨by omega, by omega, by omega, H⟩

section
variable {h0 h : Hp} {u y : Sl} {L m : List Nat} {a0 : Addr} {j d : Nat} {Kb : Bool → Hp → Prop} {Ku : Unit → Hp → Prop}

theorem st_wordX {i : Int} {v : Int} {K : Hp → Prop} (k n : Nat) (ha0 : u.a = some a0) (ho : OwnW h0 h u L) (hi : i = k) (hk : k < L.length) (hv : v = n)
    (H : ∀ h', LeX a0.block h h' → OwnW h0 h' u (L.set k n) → K h') : idxP u i 1 fun a => stP a [.int .u32 v] K h :=
  st_word k n ho hi hk hv fun h' b h1 _ h3 h4 => H h' (by rw [h1 _ ha0]; exact h3) h4

/-- One step of the subtraction of a multiple. -/
theorem sub_word {x d c z : Nat} (hx : x < W) (hd : d < W) (hc : c ≤ W) (hz : z < W) : ∃ r b : Nat, r < W ∧ b ≤ W ∧ z + W * b = r + (x * d + c) ∧
    IntKind.u32.wrap (IntKind.u64.wrap (IntKind.u64.wrap (z : Int) - IntKind.u64.wrap (IntKind.u32.wrap (IntKind.u64.wrap (IntKind.u64.wrap (IntKind.u64.wrap (x : Int) * (d : Int)) + (c : Int)))))) = (r : Int) ∧
    IntKind.u64.wrap ((IntKind.u64.wrap (IntKind.u64.wrap (IntKind.u64.wrap (x : Int) * (d : Int)) + (c : Int))).fdiv (2 ^ (min (32 : Int).toNat IntKind.u64.bits)) +
      (IntKind.u64.wrap (IntKind.u64.wrap (z : Int) - IntKind.u64.wrap (IntKind.u32.wrap (IntKind.u64.wrap (IntKind.u64.wrap (IntKind.u64.wrap (x : Int) * (d : Int)) + (c : Int)))))).fdiv (2 ^ (min (63 : Int).toNat IntKind.u64.bits))) = (b : Int) := by
  unfold W at *
  have hxd : x * d ≤ 4294967295 * 4294967295 := Nat.mul_le_mul (by omega) (by omega)
  have e1 : IntKind.u64.wrap (IntKind.u64.wrap (IntKind.u64.wrap (x : Int) * (d : Int)) + (c : Int)) = ((x * d + c : Nat) : Int) := by
    rw [u64n (n := x) (by omega), show ((x : Int) * (d : Int)) = ((x * d : Nat) : Int) by simp, u64n (n := x * d) (by omega), show (((x * d : Nat) : Int) + (c : Int)) = ((x * d + c : Nat) : Int) by simp, u64n (by omega)]
  rw [e1, fd63, fd32]
  simp only [wu64e, wu32e]
  have ht : x * d + c ≤ 4294967295 * 4294967295 + 4294967296 := by omega
  generalize x * d + c = t at *
  by_cases hb : t % 4294967296 ≤ z
  · exact ⟨z - t % 4294967296, t / 4294967296, by omega, by omega, by omega, by omega, by omega⟩
  · exact ⟨z + 4294967296 - t % 4294967296, t / 4294967296 + 1, by omega, by omega, by omega, by omega, by omega⟩

theorem setj_take {L : List Nat} {j k v : Nat} (hj : j ≤ k) : (L.set k v).take j = L.take j := by
  apply List.ext_getElem
  · simp
  · intro i h1 h2
    simp only [List.length_take] at h1 h2
    simp only [List.getElem_take]
    rw [List.getElem_set_ne (by omega)]
theorem setj_drop {L : List Nat} {k e v : Nat} (hk : k < e) : (L.set k v).drop e = L.drop e := by
  rw [List.drop_set_of_lt hk]

theorem sub_of (ha0 : u.a = some a0) (ho : OwnW h0 h u L) (okL : okW L) (hy : RdW h y m) (okm : okW m) (hne : ∀ a, y.a = some a → a.block ≠ a0.block) (hj : j + m.length < L.length) (hd : d < W) (hL : L.length ≤ 35184372088800 + 1)
    (H : ∀ h' L' b, LeX a0.block h h' → OwnW h0 h' u L' → okW L' → L'.length = L.length → L'.take j = L.take j → L'.drop (j + m.length + 1) = L.drop (j + m.length + 1) → b ≤ 1 →
      vl L' + W ^ j * (d * vl m) = vl L + W ^ (j + m.length + 1) * b → Kb ((b : Int) == 1) h') : F.integer_subtract (u.cut j (j + m.length + 1) 1) y (d : Int) Kb h := by
  unfold F.integer_subtract
  have ly := hy.len
  have lu := ho.len
  have lc := ho.2.2.1
  refine loopP_of (fun st h' => ∃ (c i : Nat) (L' : List Nat), st = ((c : Int), (i : Int), ()) ∧ i ≤ m.length ∧ c ≤ W ∧ LeX a0.block h h' ∧ OwnW h0 h' u L' ∧ okW L' ∧ L'.length = L.length ∧ L'.take j = L.take j ∧ L'.drop (j + m.length + 1) = L.drop (j + m.length + 1) ∧
      vl L' + W ^ j * (d * vl (m.take i)) = vl L + W ^ (j + i) * c) (fun st => ((m.length : Int) - st.2.1).toNat) ⟨0, 0, L, rfl, Nat.zero_le _, by omega, LeX.refl, ho, okL, rfl, rfl, rfl, by simp [vl]⟩ ?_
  rintro st h1 ⟨c, i, L', rfl, hi, hc, hle, ho1, okL', hLL, htk, hdr, hv⟩
  have hy1 := hy.leX hle hne
  refine ifP_dec (fun h3 => ?_) (fun h3 => ?_)
  · have hi' : i < m.length := by have : (i : Int) < (y.len : Int) := h3; omega
    have hx := ok_get okm hi'
    have hz := ok_get okL' (k := j + i) (by omega)
    refine rd_word i hy1 rfl hi' fun a ha => ⟨_, ha, ?_⟩
    refine idxP_cut rfl (by omega) (by omega) (rd_word (j + i) ho1.rdW rfl (by omega) fun a2 ha2 => ⟨_, ha2, ?_⟩)
    obtain ⟨r, b, hr, hb, he, e1, e2⟩ := sub_word hx hd hc hz
    refine idxP_cut rfl (by omega) (by omega) (st_wordX (j + i) r ha0 ho1 rfl (by omega) e1 fun h5 hl5 ho5 => ⟨by decide, by decide, ?_⟩)
    refine ⟨⟨b, i + 1, L'.set (j + i) r, ?_, by omega, hb, hle.trans hl5, ho5, ok_set okL' hr, by simp [hLL], by rw [setj_take (by omega)]; exact htk, by rw [setj_drop (by omega)]; exact hdr, ?_⟩, by simp only; rw [w64 (by omega)]; omega⟩
    · rw [w64 (by simp only; omega)]
      simp only [Prod.mk.injEq, and_true]
      exact ⟨e2, rfl⟩
    · have e3 := vl_set (l := L') (k := j + i) (v := r) (by omega)
      rw [vl_take_succ hi']
      generalize vl (L'.set (j + i) r) = V at *
      generalize L'[j + i] = z at *
      generalize m[i] = x at *
      generalize vl (m.take i) = T at *
      generalize vl L' = V' at *
      generalize vl L = V0 at *
      have p1 : W ^ (j + (i + 1)) = W ^ (j + i) * W := by rw [← Nat.add_assoc, Nat.pow_succ]
      have p2 : W ^ (j + i) = W ^ j * W ^ i := Nat.pow_add ..
      rw [p1]
      generalize W ^ (j + i) = P at *
      subst p2
      generalize W ^ j = Pj at *
      generalize W ^ i = Pi at *
      clear H e1 e2 hdr htk hLL okL' okL
      grind
  · have hi' : i = m.length := by have : ¬ (i : Int) < (y.len : Int) := h3; omega
    subst hi'
    have hz := ok_get okL' (k := j + m.length) (by omega)
    rw [List.take_of_length_le (Nat.le_refl _)] at hv
    refine idxP_cut (k := m.length) (by omega) (by omega) (by omega) (rd_word (j + m.length) ho1.rdW rfl (by omega) fun a2 ha2 => ⟨_, ha2, ?_⟩)
    have key : ∃ r b : Nat, r < W ∧ b ≤ 1 ∧ L'[j + m.length] + W * b = r + c ∧ IntKind.u32.wrap (IntKind.u64.wrap (IntKind.u64.wrap (L'[j + m.length] : Int) - (c : Int))) = (r : Int) ∧
        (IntKind.u64.wrap (IntKind.u64.wrap (L'[j + m.length] : Int) - (c : Int))).fdiv (2 ^ (min (63 : Int).toNat IntKind.u64.bits)) = (b : Int) := by
      rw [fd63]
      simp only [wu64e, wu32e]
      unfold W at *
      generalize L'[j + m.length] = z at *
      clear H
      by_cases hb : c ≤ z
      · exact ⟨z - c, 0, by omega, by omega, by omega, by omega, by omega⟩
      · exact ⟨z + 4294967296 - c, 1, by omega, by omega, by omega, by omega, by omega⟩
    obtain ⟨r, b, hr, hb, he, e1, e2⟩ := key
    refine idxP_cut (k := m.length) (by omega) (by omega) (by omega) (st_wordX (j + m.length) r ha0 ho1 rfl (by omega) e1 fun h5 hl5 ho5 => ⟨by decide, ?_⟩)
    simp only
    rw [e2]
    refine H h5 _ b (hle.trans hl5) ho5 (ok_set okL' hr) (by simp [hLL]) (by rw [setj_take (by omega)]; exact htk) (by rw [setj_drop (by omega)]; exact hdr) hb ?_
    have e3 := vl_set (l := L') (k := j + m.length) (v := r) (by omega)
    rw [Nat.pow_succ]
    generalize vl (L'.set (j + m.length) r) = V at *
    generalize L'[j + m.length] = z at *
    generalize W ^ (j + m.length) = P at *
    have e4 := congrArg (P * ·) he
    simp only [Nat.mul_add] at e4
    rw [Nat.mul_assoc]
    omega

theorem restore_of (ha0 : u.a = some a0) (ho : OwnW h0 h u L) (okL : okW L) (hy : RdW h y m) (okm : okW m) (hne : ∀ a, y.a = some a → a.block ≠ a0.block) (hj : j + m.length < L.length) (hL : L.length ≤ 35184372088800 + 1)
    (H : ∀ h' L' c, LeX a0.block h h' → OwnW h0 h' u L' → okW L' → L'.length = L.length → L'.take j = L.take j → L'.drop (j + m.length + 1) = L.drop (j + m.length + 1) → c ≤ 1 →
      vl L' + W ^ (j + m.length + 1) * c = vl L + W ^ j * vl m → Ku () h') : F.integer_restore (u.cut j (j + m.length + 1) 1) y Ku h := by
  unfold F.integer_restore
  have ly := hy.len
  have lu := ho.len
  have lc := ho.2.2.1
  refine loopP_of (fun st h' => ∃ (c i : Nat) (L' : List Nat), st = ((c : Int), (i : Int), ()) ∧ i ≤ m.length ∧ c ≤ 1 ∧ LeX a0.block h h' ∧ OwnW h0 h' u L' ∧ okW L' ∧ L'.length = L.length ∧ L'.take j = L.take j ∧ L'.drop (j + m.length + 1) = L.drop (j + m.length + 1) ∧
      vl L' + W ^ (j + i) * c = vl L + W ^ j * vl (m.take i)) (fun st => ((m.length : Int) - st.2.1).toNat) ⟨0, 0, L, rfl, Nat.zero_le _, by omega, LeX.refl, ho, okL, rfl, rfl, rfl, by simp [vl]⟩ ?_
  rintro st h1 ⟨c, i, L', rfl, hi, hc, hle, ho1, okL', hLL, htk, hdr, hv⟩
  have hy1 := hy.leX hle hne
  refine ifP_dec (fun h3 => ?_) (fun h3 => ?_)
  · have hi' : i < m.length := by have : (i : Int) < (y.len : Int) := h3; omega
    have hx := ok_get okm hi'
    have hz := ok_get okL' (k := j + i) (by omega)
    refine rd_word i hy1 rfl hi' fun a ha => ⟨_, ha, ?_⟩
    refine idxP_cut rfl (by omega) (by omega) (rd_word (j + i) ho1.rdW rfl (by omega) fun a2 ha2 => ⟨_, ha2, ?_⟩)
    have e0 : IntKind.u64.wrap ((c : Int) + IntKind.u64.wrap (IntKind.u64.wrap (L'[j + i] : Int) + IntKind.u64.wrap (m[i] : Int))) = ((c + (L'[j + i] + m[i]) : Nat) : Int) := by
      clear H
      unfold W at *
      simp only [wu64e]
      omega
    simp only
    rw [e0]
    refine idxP_cut rfl (by omega) (by omega) (st_wordX (j + i) _ ha0 ho1 rfl (by omega) (u32n _) fun h5 hl5 ho5 => ⟨by decide, ?_⟩)
    rw [shr32]
    refine ⟨⟨_, i + 1, _, by rw [w64 (by omega)]; rfl, by omega, ?_, hle.trans hl5, ho5, ok_set okL' (Nat.mod_lt _ W_pos), by simp [hLL], by rw [setj_take (by omega)]; exact htk, by rw [setj_drop (by omega)]; exact hdr, ?_⟩, by rw [w64 (by omega)]; omega⟩
    · clear H; unfold W at *; omega
    · have e3 := vl_set (l := L') (k := j + i) (v := (c + (L'[j + i] + m[i])) % W) (by omega)
      have he := Nat.mod_add_div (c + (L'[j + i] + m[i])) W
      rw [vl_take_succ hi']
      generalize vl (L'.set (j + i) ((c + (L'[j + i] + m[i])) % W)) = V at *
      generalize (c + (L'[j + i] + m[i])) % W = r at *
      generalize (c + (L'[j + i] + m[i])) / W = q at *
      generalize L'[j + i] = z at *
      generalize m[i] = x at *
      generalize vl (m.take i) = T at *
      generalize vl L' = V' at *
      generalize vl L = V0 at *
      have p1 : W ^ (j + (i + 1)) = W ^ (j + i) * W := by rw [← Nat.add_assoc, Nat.pow_succ]
      have p2 : W ^ (j + i) = W ^ j * W ^ i := Nat.pow_add ..
      rw [p1]
      generalize W ^ (j + i) = P at *
      subst p2
      generalize W ^ j = Pj at *
      generalize W ^ i = Pi at *
      clear H e0 hdr htk hLL okL' okL
      grind
  · have hi' : i = m.length := by have : ¬ (i : Int) < (y.len : Int) := h3; omega
    subst hi'
    have hz := ok_get okL' (k := j + m.length) (by omega)
    rw [List.take_of_length_le (Nat.le_refl _)] at hv
    refine idxP_cut (k := m.length) (by omega) (by omega) (by omega) (rd_word (j + m.length) ho1.rdW rfl (by omega) fun a2 ha2 => ⟨_, ha2, ?_⟩)
    have e1 : IntKind.u32.wrap ((L'[j + m.length] : Int) + IntKind.u32.wrap (c : Int)) = (((c + L'[j + m.length]) % W : Nat) : Int) := by
      clear H
      unfold W at *
      simp only [wu32e]
      omega
    refine idxP_cut (k := m.length) (by omega) (by omega) (by omega) (st_wordX (j + m.length) _ ha0 ho1 rfl (by omega) e1 fun h5 hl5 ho5 => ?_)
    refine H h5 _ ((c + L'[j + m.length]) / W) (hle.trans hl5) ho5 (ok_set okL' (Nat.mod_lt _ W_pos)) (by simp [hLL]) (by rw [setj_take (by omega)]; exact htk) (by rw [setj_drop (by omega)]; exact hdr) (by clear H; unfold W at *; omega) ?_
    have e3 := vl_set (l := L') (k := j + m.length) (v := (c + L'[j + m.length]) % W) (by omega)
    have he := Nat.mod_add_div (c + L'[j + m.length]) W
    rw [Nat.pow_succ]
    generalize vl (L'.set (j + m.length) ((c + L'[j + m.length]) % W)) = V at *
    generalize (c + L'[j + m.length]) % W = r at *
    generalize (c + L'[j + m.length]) / W = q at *
    generalize L'[j + m.length] = z at *
    generalize W ^ (j + m.length) = P at *
    have e4 := congrArg (P * ·) he
    simp only [Nat.mul_add] at e4
    rw [Nat.mul_assoc]
    omega
end
end Den
end

section
set_option linter.unusedVariables false
set_option maxRecDepth 4000
namespace Iv
theorem vl_get_top {l : List Nat} {n : Nat} (hl : l.length = n + 1) : vl l = vl (l.take n) + W ^ n * l[n] := by
  have := vl_take_succ (l := l) (k := n) (by omega)
  rw [List.take_of_length_le (by omega)] at this
  exact this
theorem dg_top {B n : Nat} (hn : (dg B).length = n + 1) : (dg B)[n] ≠ 0 := by
  intro h0
  have h1 := vl_get_top hn
  rw [h0, Nat.mul_zero, Nat.add_zero, vl_dg] at h1
  have h2 := vl_lt (ok_take (ok_dg B) n)
  rw [List.length_take, Nat.min_eq_left (by omega)] at h2
  have := dg_len.2 (show B < W ^ n by omega)
  omega
theorem dg_len1 {B : Nat} (h : (dg B).length = 1) : dg B = [B] := by
  have h1 := vl_dg B
  match hd : dg B, h with
  | [x], _ =>
    rw [hd] at h1
    simp only [vl, Nat.mul_zero, Nat.add_zero] at h1
    rw [h1]
open Den in
/-- The divisor, shifted so that its first bit is set. -/
theorem norm_top {B n : Nat} (hn : (dg B).length = n + 1) : ∃ s, s = 32 - bl (dg B)[n] ∧ bl (dg B)[n] ≤ 32 ∧ s ≤ 31 ∧ W ^ n * 2147483648 ≤ B * 2 ^ s ∧ B * 2 ^ s < W ^ (n + 1) := by
  have h0 := dg_top hn
  have h1 := bl_pos h0
  have h2 : bl (dg B)[n] ≤ 32 := bl_le_of (ok_get (ok_dg B) (by omega))
  have h3 := bl_lt (dg B)[n]
  have h4 := bl_le h0
  have h5 := vl_get_top hn
  rw [vl_dg] at h5
  have h6 := vl_lt (ok_take (ok_dg B) n)
  rw [List.length_take, Nat.min_eq_left (by omega)] at h6
  generalize (dg B)[n] = t at *
  refine ⟨32 - bl t, rfl, h2, by omega, ?_, ?_⟩
  · have e1 : 2147483648 = 2 ^ (bl t - 1) * 2 ^ (32 - bl t) := by
      rw [← Nat.pow_add, show bl t - 1 + (32 - bl t) = 31 by omega]
    rw [e1, ← Nat.mul_assoc]
    refine Nat.mul_le_mul_right _ ?_
    have := Nat.mul_le_mul_left (W ^ n) h4
    omega
  · have e1 : W ^ (n + 1) = W ^ n * 2 ^ bl t * 2 ^ (32 - bl t) := by
      rw [Nat.mul_assoc, ← Nat.pow_add, show bl t + (32 - bl t) = 32 by omega, Nat.pow_succ]; rfl
    rw [e1]
    refine Nat.mul_lt_mul_of_pos_right ?_ (Nat.two_pow_pos _)
    have := Nat.mul_le_mul_left (W ^ n) h3
    rw [Nat.mul_succ] at this
    omega
theorem win {U U1 : List Nat} {j e b Y : Nat} (hl : U1.length = U.length) (hj : j ≤ U.length) (ht : U1.take j = U.take j) (hv : vl U1 + W ^ j * Y = vl U + W ^ (j + e) * b) :
    vl (U1.drop j) + Y = vl (U.drop j) + W ^ e * b := by
  have h1 := vl_take_drop hj
  have h2 := vl_take_drop (l := U1) (k := j) (by omega)
  rw [ht] at h2
  rw [h1, h2, Nat.pow_add, Nat.mul_assoc] at hv
  have h3 : W ^ j * (vl (U1.drop j) + Y) = W ^ j * (vl (U.drop j) + W ^ e * b) := by
    rw [Nat.mul_add, Nat.mul_add]; omega
  exact Nat.eq_of_mul_eq_mul_left (Nat.pow_pos W_pos) h3
theorem win_lt {U U1 : List Nat} {j e : Nat} (ok : okW U1) (hj : j + e ≤ U1.length) (hd : U1.drop (j + e) = U.drop (j + e)) (h0 : vl (U.drop (j + e)) = 0) : vl (U1.drop j) < W ^ e := by
  have h1 := vl_take_drop (l := U1.drop j) (k := e) (by rw [List.length_drop]; omega)
  rw [List.drop_drop, hd, h0, Nat.mul_zero, Nat.add_zero] at h1
  rw [h1]
  have h2 := vl_lt (ok_take (ok_drop ok j) e)
  rw [List.length_take, List.length_drop, Nat.min_eq_left (by omega)] at h2
  exact h2
/-- What a window of words looks like from the top. -/
theorem win_top {U : List Nat} {j n : Nat} (ok : okW U) (hj : j + n + 3 ≤ U.length) (h0 : vl (U.drop (j + (n + 3))) = 0) :
    ∃ lo, lo < W ^ n ∧ vl (U.drop j) = ((U.getD (j + (n + 2)) 0 * W + U.getD (j + (n + 1)) 0) * W + U.getD (j + n) 0) * W ^ n + lo := by
  have h1 := vl_take_drop (l := U.drop j) (k := n + 3) (by rw [List.length_drop]; omega)
  rw [List.drop_drop, h0, Nat.mul_zero, Nat.add_zero] at h1
  obtain ⟨P, lo, e1, e2, e3⟩ := top3 (l := (U.drop j).take (n + 3)) (n := n) (ok_take (ok_drop ok j) _) (by rw [List.length_take, List.length_drop]; omega)
  subst e1
  have g : ∀ i, i < n + 3 → ((U.drop j).take (n + 3)).getD i 0 = U.getD (j + i) 0 := fun i hi => by
    simp only [List.getD_eq_getElem?_getD, List.getElem?_take, hi, if_true, List.getElem?_drop]
  rw [g _ (by omega), g _ (by omega), g _ (by omega)] at e3
  exact ⟨lo, e2, h1.trans e3⟩
theorem un_le {X V P w v1 v2 un : Nat} (hX : un * w * w * P ≤ X) (hV : V ≤ (v1 * w + v2 + 1) * P) (hlt : X < V * w) (hv2 : v2 < w) : un ≤ v1 := by
  rcases Nat.lt_or_ge v1 un with h | h
  · exfalso
    have h1 : v1 * w + v2 + 1 ≤ un * w := by
      have : (v1 + 1) * w ≤ un * w := Nat.mul_le_mul_right _ h
      rw [Nat.add_mul] at this; omega
    have h2 : (v1 * w + v2 + 1) * P ≤ un * w * P := Nat.mul_le_mul_right _ h1
    have h3 : V * w ≤ un * w * P * w := Nat.mul_le_mul_right _ (Nat.le_trans hV h2)
    have h4 : un * w * P * w = un * w * w * P := by rw [Nat.mul_assoc (un * w), Nat.mul_comm P w, ← Nat.mul_assoc]
    omega
  · exact h
theorem first_lt {U : List Nat} {A s N n V : Nat} (hU : U.length = N + 1) (hv : vl U = A * 2 ^ s) (hA : A < W ^ N) (hs : s ≤ 31) (hn : n + 1 ≤ N) (hV : W ^ n * 2147483648 ≤ V) : vl (U.drop (N - n)) < V := by
  have h1 := vl_take_drop (l := U) (k := N - n) (by omega)
  have h2 : vl U < W ^ N * 2147483648 := by
    rw [hv]
    exact Nat.mul_lt_mul_of_lt_of_le hA (Nat.pow_le_pow_right (n := 2) (by decide) hs) (by decide)
  have h3 : W ^ N = W ^ (N - n) * W ^ n := by rw [← Nat.pow_add]; congr 1; omega
  rw [h3, Nat.mul_assoc] at h2
  have h4 : W ^ (N - n) * vl (U.drop (N - n)) < W ^ (N - n) * V := by
    have := Nat.mul_le_mul_left (W ^ (N - n)) hV
    omega
  exact Nat.lt_of_mul_lt_mul_left h4
/-- No borrow: the digit was right. -/
theorem ks0 {L1 : List Nat} {X V qh j e : Nat} (hV : 0 < V) (hq : X / V ≤ qh) (hw : vl (L1.drop j) + qh * V = X + W ^ e * 0) : qh = X / V ∧ vl (L1.drop j) < V := by
  rw [Nat.mul_zero, Nat.add_zero] at hw
  have h1 : qh * V ≤ X := by omega
  have h2 := (Nat.le_div_iff_mul_le hV).2 h1
  obtain rfl : qh = X / V := Nat.le_antisymm h2 hq
  refine ⟨rfl, ?_⟩
  have h3 := Nat.mod_add_div' X V
  have h4 := Nat.mod_lt X hV
  omega
/-- A borrow: the digit was too great by one, and restoring ends the borrow. -/
theorem ks1 {L L1 L2 : List Nat} {X V qh j e c : Nat} (hV : 0 < V) (hq : X / V ≤ qh) (hq2 : qh ≤ X / V + 1) (hX : vl (L.drop j) = X) (hl1 : L1.length = L.length) (hl2 : L2.length = L1.length) (hj : j ≤ L.length)
    (ht1 : L1.take j = L.take j) (ht2 : L2.take j = L1.take j) (hw : vl (L1.drop j) + qh * V = X + W ^ e * 1) (hlt1 : vl (L1.drop j) < W ^ e) (hlt2 : vl (L2.drop j) < W ^ e) (hc : c ≤ 1)
    (hr : vl L2 + W ^ (j + e) * c = vl L1 + W ^ j * V) : qh = X / V + 1 ∧ vl L2 + W ^ j * (X / V * V) = vl L ∧ vl (L2.drop j) < V := by
  rw [Nat.mul_one] at hw
  have hmd := Nat.div_mul_le_self X V
  have h1 : qh = X / V + 1 := by
    rcases Nat.lt_or_ge (X / V) qh with h | h
    · omega
    · obtain rfl : qh = X / V := Nat.le_antisymm h hq
      omega
  subst h1
  have k0 := vl_take_drop hj
  have k1 := vl_take_drop (l := L1) (k := j) (by omega)
  have k2 := vl_take_drop (l := L2) (k := j) (by omega)
  rw [hX] at k0
  rw [ht2] at k2
  rw [ht1] at k1 k2
  have h3 : vl (L2.drop j) + W ^ e * c = vl (L1.drop j) + V := by
    have e1 : W ^ j * (vl (L2.drop j) + W ^ e * c) = W ^ j * (vl (L1.drop j) + V) := by
      rw [Nat.mul_add, Nat.mul_add, ← Nat.mul_assoc (W ^ j), ← Nat.pow_add]
      rw [k1, k2] at hr
      omega
    exact Nat.eq_of_mul_eq_mul_left (Nat.pow_pos W_pos) e1
  rw [Nat.add_mul] at hw
  have hc1 : c = 1 := by
    rcases Nat.eq_zero_or_pos c with h | h
    · subst h; rw [Nat.mul_zero, Nat.add_zero] at h3; omega
    · omega
  subst hc1
  have hf : vl (L2.drop j) + X / V * V = X := by omega
  refine ⟨rfl, ?_, ?_⟩
  · rw [k2, k0]
    have := congrArg (W ^ j * ·) hf
    simp only [Nat.mul_add] at this
    omega
  · have h5 := Nat.mod_add_div' X V
    have h6 := Nat.mod_lt X hV
    omega
/-- The first estimate is not too small. -/
theorem first_est {X V P v1 v2 un un1 un2 : Nat} (hP : 0 < P) (hv1 : 0 < v1) (hV : (v1 * W + v2) * P ≤ V) (hX : X < ((un * W + un1) * W + un2 + 1) * P) (hu : un2 < W) : X / V ≤ (un * W + un1) / v1 := by
  rw [Nat.le_div_iff_mul_le hv1]
  have h5 : X / V * V ≤ X := Nat.div_mul_le_self X V
  have h6 : X / V * (v1 * W * P) ≤ X / V * V := Nat.mul_le_mul_left _ (Nat.le_trans (Nat.mul_le_mul_right _ (Nat.le_add_right _ v2)) hV)
  have h7 : X / V * v1 * (W * P) < (un * W + un1 + 1) * (W * P) := by
    have e1 : X / V * (v1 * W * P) = X / V * v1 * (W * P) := by rw [Nat.mul_assoc v1, ← Nat.mul_assoc]
    have e2 : ((un * W + un1) * W + un2 + 1) * P ≤ (un * W + un1 + 1) * (W * P) := by
      rw [← Nat.mul_assoc]
      refine Nat.mul_le_mul_right _ ?_
      rw [Nat.add_mul _ 1]; omega
    omega
  have := Nat.lt_of_mul_lt_mul_right h7
  omega
theorem win_lt_V {L : List Nat} {j V : Nat} (ok : okW L) (hj : j < L.length) (hlt : vl (L.drop (j + 1)) < V) : vl (L.drop j) < V * W := by
  rw [List.drop_eq_getElem_cons hj]
  simp only [vl]
  have := ok_get ok hj
  have h5 : W * (vl (L.drop (j + 1)) + 1) ≤ W * V := Nat.mul_le_mul_left _ hlt
  rw [Nat.mul_add, Nat.mul_comm W V] at h5
  omega
theorem top_half {V v1 v2 lo n : Nat} (hV : W ^ (n + 1) * 2147483648 ≤ V) (hV2 : V = (v1 * W + v2) * W ^ n + lo) (hlo : lo < W ^ n) (hv2 : v2 < W) : W ≤ 2 * v1 := by
  have e1 : W ^ (n + 1) * 2147483648 < (v1 + 1) * W ^ (n + 1) := by
    refine Nat.lt_of_le_of_lt hV ?_
    rw [hV2, Nat.pow_succ, Nat.add_mul, Nat.add_mul]
    have : v2 * W ^ n + W ^ n ≤ W ^ n * W := by
      rw [← Nat.succ_mul, Nat.mul_comm]; exact Nat.mul_le_mul_left _ hv2
    rw [Nat.mul_assoc _ W, Nat.mul_comm W]
    omega
  rw [Nat.mul_comm] at e1
  have := Nat.lt_of_mul_lt_mul_right e1
  unfold W; omega
theorem dig_step {A V s k j q : Nat} {L L2 r : List Nat} (hk : k = j + 1) (hval : A * 2 ^ s = V * (W ^ k * vl (r.drop k)) + vl L) (hv : vl L2 + W ^ j * (q * V) = vl L) (hj : j < r.length) :
    A * 2 ^ s = V * (W ^ j * vl ((r.set j q).drop j)) + vl L2 := by
  subst hk
  rw [List.drop_eq_getElem_cons (l := r.set j q) (by simpa using hj), List.getElem_set_self, List.drop_set_of_lt (by omega)]
  simp only [vl]
  rw [hval, ← hv, Nat.pow_succ, Nat.mul_add, Nat.mul_add, Nat.mul_assoc (W ^ j)]
  have e1 : V * (W ^ j * q) = W ^ j * (q * V) := by
    rw [Nat.mul_comm V, Nat.mul_assoc]
  omega
theorem norm_len {V n : Nat} (hVl : W ^ (n + 1) * 2147483648 ≤ V) (hVu : V < W ^ (n + 2)) : (dg V).length = n + 2 := by
  have e1 := dg_len.2 hVu
  have e2 : W ^ (n + 1) ≤ V := Nat.le_trans (Nat.le_mul_of_pos_right _ (by decide)) hVl
  rcases Nat.lt_or_ge (dg V).length (n + 2) with h3 | h3
  · exfalso
    have := (dg_len (n := V) (k := n + 1)).1 (by omega)
    omega
  · omega
end Iv
namespace Den
open Go Iv

def lenTab : ByteArray := ⟨#[0, 1, 2, 2, 3, 3, 3, 3, 4, 4, 4, 4, 4, 4, 4, 4, 5, 5, 5, 5, 5, 5, 5, 5, 5, 5, 5, 5, 5, 5, 5, 5, 6, 6, 6, 6, 6, 6, 6, 6, 6, 6, 6, 6, 6, 6, 6, 6, 6, 6, 6, 6, 6, 6, 6, 6, 6, 6, 6, 6, 6, 6, 6, 6, 7, 7, 7, 7, 7, 7, 7, 7, 7, 7, 7, 7, 7, 7, 7, 7, 7, 7, 7, 7, 7, 7, 7, 7, 7, 7, 7, 7, 7, 7, 7, 7, 7, 7, 7, 7, 7, 7, 7, 7, 7, 7, 7, 7, 7, 7, 7, 7, 7, 7, 7, 7, 7, 7, 7, 7, 7, 7, 7, 7, 7, 7, 7, 7, 8, 8, 8, 8, 8, 8, 8, 8, 8, 8, 8, 8, 8, 8, 8, 8, 8, 8, 8, 8, 8, 8, 8, 8, 8, 8, 8, 8, 8, 8, 8, 8, 8, 8, 8, 8, 8, 8, 8, 8, 8, 8, 8, 8, 8, 8, 8, 8, 8, 8, 8, 8, 8, 8, 8, 8, 8, 8, 8, 8, 8, 8, 8, 8, 8, 8, 8, 8, 8, 8, 8, 8, 8, 8, 8, 8, 8, 8, 8, 8, 8, 8, 8, 8, 8, 8, 8, 8, 8, 8, 8, 8, 8, 8, 8, 8, 8, 8, 8, 8, 8, 8, 8, 8, 8, 8, 8, 8, 8, 8, 8, 8, 8, 8, 8, 8, 8, 8, 8, 8, 8, 8, 8, 8, 8, 8, 8, 8]⟩
theorem lenTab_all : ∀ i : Fin 256, (BS lenTab)[i.val]? = some (bl i.val).toUInt8 := by decide +kernel
theorem bl8 : ∀ i : Fin 256, ((bl i.val).toUInt8).toNat = bl i.val := by decide +kernel
theorem lenTab_idx {c : Nat} {K : Int → Prop} {i : Int} (hc : c < 256) (hi : i = c) (H : K ((bl c : Nat) : Int)) : strIdx lenTab i K := by
  have h1 := lenTab_all ⟨c, hc⟩
  have h2 := bl8 ⟨c, hc⟩
  simp only at h1 h2
  have hlen : c < (BS lenTab).length := by
    rcases Nat.lt_or_ge c (BS lenTab).length with h | h
    · exact h
    · rw [List.getElem?_eq_none h] at h1; cases h1
  have h3 : (BS lenTab)[c] = (bl c).toUInt8 := by
    rw [List.getElem?_eq_getElem hlen] at h1
    exact Option.some.inj h1
  refine strIdx_drop (k := c) (c := (bl c).toUInt8) (r := (BS lenTab).drop (c + 1)) ?_ hi ?_
  · rw [List.drop_eq_getElem_cons hlen, h3]
  · rw [h2]; exact H

section
variable {h : Hp} {x y : Sl} {l m : List Nat} {Ks : Sl → Hp → Prop} {Ki : Int → Hp → Prop}

theorem Len32_call {t : Nat} (ht : t < W) (H : Ki ((bl t : Nat) : Int) h) : callP (F.math_bits_Len32 (t : Int)) Ki h := by
  refine callP_same _ (fun K' hk => ?_) H
  unfold F.math_bits_Len32
  have p8 : ∀ n : Nat, ((n : Int)).fdiv (2 ^ (min (8 : Int).toNat IntKind.u32.bits)) = ((n / 2 ^ 8 : Nat) : Int) := fun n => shr_val (s := 8) (by omega)
  have p16 : ∀ n : Nat, ((n : Int)).fdiv (2 ^ (min (16 : Int).toNat IntKind.u32.bits)) = ((n / 2 ^ 16 : Nat) : Int) := fun n => shr_val (s := 16) (by omega)
  refine joinP_inv (fun s h' => h' = h ∧ ∃ a b : Nat, s = ((a : Int), (b : Int), ()) ∧ a < 65536 ∧ b ≤ 16 ∧ bl t = bl a + b) ?_ ?_
  · rintro _ h' ⟨rfl, a, b, rfl, ha, hb, he⟩
    refine joinP_inv (fun s h2 => h2 = h' ∧ ∃ c d : Nat, s = ((c : Int), (d : Int), ()) ∧ c < 256 ∧ d ≤ 24 ∧ bl t = bl c + d) ?_ ?_
    · rintro _ h2 ⟨rfl, c, d, rfl, hc, hd, he2⟩
      have hbl : bl c ≤ 32 := bl_le_of (by omega)
      refine lenTab_idx (c := c) hc ?_ ?_
      · simp [IntKind.wrap, IntKind.signed, IntKind.bits]; omega
      · simp only
        rw [i64n (by omega), show (d : Int) + ((bl c : Nat) : Int) = ((bl t : Nat) : Int) by omega, i64n (by omega)]
        exact hk
    · refine ifP_dec (fun h1 => ⟨by decide, ?_⟩) (fun h1 => ?_)
      · have h2 : a ≥ 256 := by simp only at h1; omega
        refine ⟨by trivial, a / 2 ^ 8, b + 8, ?_, by omega, by omega, ?_⟩
        · simp only
          rw [p8, w64 (by omega)]; rfl
        · rw [he, bl_shift (n := a) (k := 8) h2]; omega
      · have h2 : a < 256 := by simp only at h1; omega
        exact ⟨by trivial, a, b, rfl, h2, by omega, he⟩
  · refine ifP_dec (fun h1 => ⟨by decide, ?_⟩) (fun h1 => ?_)
    · have h2 : t ≥ 65536 := by omega
      refine ⟨rfl, t / 2 ^ 16, 16, ?_, by unfold W at ht; omega, by omega, ?_⟩
      · rw [p16]; rfl
      · rw [bl_shift (n := t) (k := 16) h2]
    · have h2 : t < 65536 := by omega
      exact ⟨rfl, t, 0, rfl, h2, by omega, rfl⟩
theorem LeadingZeros32_call {t : Nat} (ht : t < W) (hb : bl t ≤ 32) (H : Ki ((32 - bl t : Nat) : Int) h) : callP (F.math_bits_LeadingZeros32 (t : Int)) Ki h := by
  refine callP_same _ (fun K' hk => ?_) H
  unfold F.math_bits_LeadingZeros32
  refine Len32_call ht ?_
  rw [w64 (by omega), show (32 : Int) - ((bl t : Nat) : Int) = ((32 - bl t : Nat) : Int) by omega]
  exact hk

theorem length_call {n : Nat} (hx : RdW h x (dg n)) (hl : (dg n).length ≤ 35184372088800) (H : Ki (if h0 : (dg n).length = 0 then 0 else ((32 * ((dg n).length - 1) + bl (dg n)[(dg n).length - 1] : Nat) : Int)) h) : callP (F.ref01_length x) Ki h := by
  refine callP_same _ (fun K' hk => ?_) H
  unfold F.ref01_length
  have lx := hx.len
  refine ifP_eq (fun h1 => ?_) (fun h1 => ?_)
  · rw [dif_pos (by omega)] at hk; exact hk
  · obtain ⟨N, hN⟩ : ∃ N, (dg n).length = N + 1 := ⟨(dg n).length - 1, by omega⟩
    rw [dif_neg (by omega)] at hk
    have ht := ok_get (ok_dg n) (k := N) (by omega)
    have hbt : bl (dg n)[N] ≤ 32 := bl_le_of ht
    have e1 : (dg n)[(dg n).length - 1]'(by omega) = (dg n)[N]'(by omega) := by congr 1; omega
    rw [e1] at hk
    refine rd_word N hx (by rw [lx, hN, w64 (by omega)]; omega) (by omega) fun a ha => ⟨_, ha, ?_⟩
    refine loopP_of (fun st h' => h' = h ∧ ∃ c t : Nat, st = ((c : Int), (t : Int), ()) ∧ t < W ∧ c + bl t = bl (dg n)[N]) (fun st => st.2.1.toNat) ⟨rfl, 0, _, rfl, ht, by omega⟩ ?_
    rintro st h' ⟨rfl, c, t, rfl, htW, he⟩
    refine ifP_dec (fun h3 => ⟨by decide, ?_⟩) (fun h3 => ?_)
    · simp only at h3 ⊢
      have h4 : t ≠ 0 := by omega
      have h5 := bl_half h4
      have e2 : ((t : Int)).tdiv 2 = ((t / 2 : Nat) : Int) := tdivn t 2
      rw [e2, u32lt (by omega)]
      exact ⟨⟨by trivial, c + 1, t / 2, by rw [w64 (by omega)]; rfl, by omega, by omega⟩, by omega⟩
    · have h4 : t = 0 := by simp only at h3; omega
      subst h4
      have h5 : c = bl (dg n)[N] := by rw [bl_zero] at he; omega
      simp only [h5]
      clear H he h5
      generalize bl (dg n)[N] = q at *
      have e3 : IntKind.i64.wrap (IntKind.i64.wrap (32 * IntKind.i64.wrap ((x.len : Int) - 1)) + ((q : Nat) : Int)) = ((32 * ((dg n).length - 1) + q : Nat) : Int) := by
        rw [lx, hN, w64 (n := ((N + 1 : Nat) : Int) - 1) (by omega), w64 (n := 32 * (((N + 1 : Nat) : Int) - 1)) (by omega), w64 (by omega)]
        omega
      rw [e3]; exact hk
end
end Den
end

section
set_option linter.unusedVariables false
set_option maxHeartbeats 4000000
namespace Den
open Go Iv

theorem Own.some {h0 h : Hp} {x : Sl} {l : List Nat} (ho : OwnW h0 h x l) (hl : 0 < l.length) : ∃ a, x.a = some a ∧ h0 a.block = none ∧ h a.block ≠ none := by
  have hlen := ho.len
  obtain ⟨h1, h2, h3, h4⟩ := ho
  cases ha : x.a with
  | none => rw [ha] at h4; simp only at h4; omega
  | some a =>
    rw [ha] at h4
    obtain ⟨_, _, g3, b, g4, _⟩ := h4
    exact ⟨a, rfl, g3, by rw [g4]; exact fun hh => by cases hh⟩
section
variable {h : Hp} {x y : Sl} {l m : List Nat} {Ks : Sl → Hp → Prop} {Ki : Int → Hp → Prop} {Kp : (Sl × Sl) → Hp → Prop}

theorem pred_cast (q : Nat) : (((q + 1 : Nat) : Int) - 1) = (q : Int) := by omega
/-- The word of a list at an index that may be too great. -/
theorem rd_wordD {i : Int} {Ka : Addr → Prop} (k : Nat) (hr : RdW h x l) (hi : i = k) (hk : k < l.length)
    (H : ∀ a, h.cell a = some (.int .u32 ((l.getD k 0 : Nat) : Int)) → Ka a) : idxP x i 1 Ka :=
  rd_word k hr hi hk fun a ha => H a (by rw [getD_get hk]; exact ha)

theorem divide_of {A B : Nat} (hx : RdW h x (dg A)) (hy : RdW h y (dg B)) (hB : B ≠ 0) (hl : (dg A).length ≤ 35184372088000) (hl2 : (dg B).length ≤ 35184372088000)
    (H : ∀ q r h', h.le h' → RdW h' q (dg (A / B)) → RdW h' r (dg (A % B)) → Kp (q, r) h') : F.integer_divide x y Kp h := by
  unfold F.integer_divide
  have lx := hx.len
  have ly := hy.len
  refine compare_call hx hy (by omega) (by omega) ?_
  unfold cmpN
  by_cases hAB : A < B
  · rw [if_pos hAB]
    refine ifP_true rfl ?_
    refine clone_call hx (by omega) fun z h1 hl1 hz => H _ _ _ hl1 ?_ ?_
    · rw [Nat.div_eq_of_lt hAB, dg_zero]; exact RdW.nil
    · rw [Nat.mod_eq_of_lt hAB]; exact hz
  rw [if_neg hAB]
  refine ifP_false (by split <;> rfl) ?_
  have hBl := dg_mono (Nat.le_of_not_lt hAB)
  have hB0 : (dg B).length ≠ 0 := fun h0 => hB (dg_nil.1 (List.length_eq_zero_iff.1 h0))
  refine ifP_dec (fun h1 => ?_) (fun h1 => ?_)
  · refine toUint_call hx (ok_dg A) (by omega) fun h2 hl2 => ?_
    refine toUint_call (hy.le hl2) (ok_dg B) (by omega) fun h3 hl3 => ?_
    rw [vl_dg, vl_dg]
    have hA64 : A < 18446744073709551616 := by
      have := (dg_len (n := A) (k := 2)).1 (by omega)
      have e : W ^ 2 = 18446744073709551616 := by decide
      omega
    have hq : A / B ≤ A := Nat.div_le_self A B
    have hr : A % B ≤ A := Nat.mod_le A B
    refine ⟨by omega, by omega, ?_⟩
    rw [tdivn, tmodn, u64n (by omega)]
    refine fromUint_call rfl (by omega) fun z h4 hl4 hz => fromUint_call rfl (by omega) fun w h5 hl5 hw => ?_
    exact H _ _ _ (Hp.le_trans hl2 (Hp.le_trans hl3 (Hp.le_trans hl4 hl5))) (hz.le hl5) hw
  refine ifP_eq (fun h2 => ?_) (fun h2 => ?_)
  · have hB1 := dg_len1 (B := B) (by omega)
    have hBW : B < W := by
      have := ok_dg B B (by rw [hB1]; exact List.mem_singleton.2 rfl)
      exact this
    refine rd_wordD 0 hy rfl (by omega) fun a ha => ⟨_, ha, ?_⟩
    have e0 : (dg B).getD 0 0 = B := by rw [hB1]; rfl
    rw [e0]
    refine divideWord_call hx (ok_dg A) (Nat.pos_of_ne_zero hB) hBW (by omega) fun z w h3 hl3 hz hw => ?_
    rw [vl_dg] at hz hw
    exact H _ _ _ hl3 hz hw
  -- the long division
  obtain ⟨n, hn⟩ : ∃ n, (dg B).length = n + 2 := ⟨(dg B).length - 2, by omega⟩
  obtain ⟨N, hN⟩ : ∃ N, (dg A).length = N := ⟨_, rfl⟩
  obtain ⟨s, hs, hbl, hs31, hVl, hVu⟩ := norm_top (B := B) (n := n + 1) hn
  refine rd_word (n + 1) hy (by rw [ly, hn, w64 (by omega)]; omega) (by omega) fun a ha => ⟨_, ha, ?_⟩
  have htW := ok_get (ok_dg B) (k := n + 1) (by omega)
  refine LeadingZeros32_call htW hbl ?_
  rw [← hs]
  refine shl_call hx (ok_dg A) hs31 (by omega) fun u h9 U ho9 okU hUl hUv => ?_
  rw [vl_dg] at hUv
  refine shl_call (hy.le ho9.1) (ok_dg B) hs31 (by omega) fun v0 h10 V0 ho10 okV0 hV0l hV0v => ?_
  rw [vl_dg] at hV0v
  refine trimX_call ho10.rdW (by omega) fun v hv hsub => ?_
  rw [trim_eq okV0, hV0v] at hv
  generalize hV : B * 2 ^ s = V at *
  have hVpos : 0 < V := Nat.lt_of_lt_of_le (Nat.mul_pos (Nat.pow_pos W_pos) (by decide)) hVl
  have hVn : (dg V).length = n + 2 := norm_len hVl hVu
  have lu := ho9.len
  have lv := hv.len
  have hN2 : n + 2 ≤ N := by omega
  refine mk_word (N - n - 1) (N - n - 1) (by rw [lu, lv, w64 (by omega)]; omega) (by rw [lu, lv, w64 (by omega)]; omega) (by omega) (by omega) fun q h12 hq ho12 => ?_
  -- where things lie
  obtain ⟨a13, ha13, hb13, hc13⟩ := Own.some ho9 (by omega)
  obtain ⟨a16, ha16, hb16, hc16⟩ := Own.some ho12 (by simp; omega)
  have hlh : h.le h10 := Hp.le_trans ho9.1 ho10.1
  have hb16h : h a16.block = none := Hp.none_of_le hlh hb16
  have ne16 : a13.block ≠ a16.block := fun hh => by
    have h3 := Hp.none_of_le ho10.1 hb16
    rw [← hh] at h3; exact hc13 h3
  have hvne : ∀ a, v.a = some a → a.block ≠ a13.block ∧ a.block ≠ a16.block := fun a ha => by
    obtain ⟨a', h3, h4⟩ := hsub a ha
    rw [h4]
    constructor
    · exact apart_of ho9 ho10 a13 a' ha13 h3 |>.symm
    · exact apart_of ho10 ho12 a' a16 h3 ha16
  have hne13 : ∀ a, v.a = some a → a.block ≠ a13.block := fun a ha => (hvne a ha).1
  have hne16 : ∀ a, v.a = some a → a.block ≠ a16.block := fun a ha => (hvne a ha).2
  have hu16 : ∀ a, u.a = some a → a.block ≠ a16.block := fun a ha => by rw [ha13] at ha; cases ha; exact ne16
  have hq13 : ∀ a, q.a = some a → a.block ≠ a13.block := fun a ha => by rw [ha16] at ha; cases ha; exact ne16.symm
  have hou : OwnW h h12 u U := (ho9.le ho10.1).le ho12.1
  have hoq : OwnW h h12 q (List.replicate (N - n - 1) 0) := ho12.base hlh
  have hv12 : RdW h12 v (dg V) := hv.le ho12.1
  -- the two highest words of the divisor
  obtain ⟨P, lo2, hP, hlo2, hVtop, _⟩ := top2 (ok_dg V) (n := n) hVn
  rw [vl_dg] at hVtop
  have hv1 : (dg V).getD (n + 1) 0 < W := getD_lt (ok_dg V) _
  have hv2 : (dg V).getD n 0 < W := getD_lt (ok_dg V) _
  refine rd_wordD (n + 1) hv12 (by rw [lv, hVn, w64 (by omega)]; omega) (by omega) fun a1 ha1 => ⟨_, ha1, ?_⟩
  refine rd_wordD n hv12 (by rw [lv, hVn, w64 (by omega)]; omega) (by omega) fun a2 ha2 => ⟨_, ha2, ?_⟩
  generalize hgv1 : (dg V).getD (n + 1) 0 = v1 at *
  generalize hgv2 : (dg V).getD n 0 = v2 at *
  subst hP
  have hv1b : W ≤ 2 * v1 := top_half hVl hVtop hlo2 hv2
  have hAl : A < W ^ N := dg_len.1 (by omega)
  have hfirst : vl (U.drop (N - (n + 1))) < V := first_lt (n := n + 1) (by omega) hUv hAl hs31 (by omega) hVl
  refine loopP_of (fun st h' => ∃ (k : Nat) (L r : List Nat), st = ((k : Int) - 1, ()) ∧ k ≤ N - n - 1 ∧ OwnW h h' u L ∧ okW L ∧ L.length = N + 1 ∧ OwnW h h' q r ∧ okW r ∧ r.length = N - n - 1 ∧ RdW h' v (dg V) ∧
      vl (L.drop k) < V ∧ A * 2 ^ s = V * (W ^ k * vl (r.drop k)) + vl L) (fun st => (st.1 + 1).toNat)
    ⟨N - n - 1, U, _, by rw [hq, w64 (by omega)], Nat.le_refl _, hou, okU, by omega, hoq, ok_rep _, by simp, hv12, by rw [show N - n - 1 = N - (n + 1) by omega]; exact hfirst, by rw [List.drop_eq_nil_of_le (by simp), hUv]; simp [vl]⟩ ?_
  rintro st h3 ⟨k, L, r, rfl, hk, hoL, okL, hLl, hor, okr, hrl, hv3, hlt, hval⟩
  have llu := hoL.len
  have hucap := hoL.2.2.1
  refine ifP_dec (fun h4 => ?_) (fun h4 => ?_)
  · obtain ⟨j, rfl⟩ : ∃ j, k = j + 1 := ⟨k - 1, by have : (k : Int) - 1 ≥ 0 := h4; omega⟩
    have hji : ((j + 1 : Nat) : Int) - 1 = (j : Int) := by omega
    have wj : IntKind.i64.wrap ((j : Int) + (v.len : Int)) = ((j + (n + 2) : Nat) : Int) := by rw [lv, hVn, w64 (by omega)]; omega
    have wj1 : IntKind.i64.wrap (((j + (n + 2) : Nat) : Int) - 1) = ((j + (n + 1) : Nat) : Int) := by rw [w64 (by omega)]; omega
    have wj2 : IntKind.i64.wrap (((j + (n + 2) : Nat) : Int) - 2) = ((j + n : Nat) : Int) := by rw [w64 (by omega)]; omega
    have wj3 : IntKind.i64.wrap (((j + (n + 2) : Nat) : Int) + 1) = ((j + (n + 2) + 1 : Nat) : Int) := by rw [w64 (by omega)]; omega
    simp only [hji, wj, wj1, wj2, wj3]
    -- the window
    have hlt2 : vl (L.drop (j + 1)) < W ^ (n + 2) := Nat.lt_trans hlt hVu
    have hz0 : vl (L.drop (j + (n + 3))) = 0 := by
      have := vl_drop_zero okL hlt2
      rw [show j + 1 + (n + 2) = j + (n + 3) by omega] at this
      exact this
    obtain ⟨lo, hlo, hX⟩ := win_top (n := n) okL (j := j) (by omega) hz0
    have hun : L.getD (j + (n + 2)) 0 < W := getD_lt okL _
    have hun1 : L.getD (j + (n + 1)) 0 < W := getD_lt okL _
    have hun2 : L.getD (j + n) 0 < W := getD_lt okL _
    have hXV : vl (L.drop j) < V * W := win_lt_V okL (by omega) hlt
    refine rd_wordD (j + (n + 2)) hoL.rdW rfl (by omega) fun a3 ha3 => ⟨_, ha3, by decide, ?_⟩
    refine rd_wordD (j + (n + 1)) hoL.rdW rfl (by omega) fun a4 ha4 => ⟨_, ha4, ?_⟩
    generalize hX0 : vl (L.drop j) = X at *
    generalize L.getD (j + (n + 2)) 0 = un at *
    generalize L.getD (j + (n + 1)) 0 = un1 at *
    generalize hun2e : L.getD (j + n) 0 = un2 at *
    have hv1p : 0 < v1 := by unfold W at hv1b; omega
    have hv1ne : IntKind.u64.wrap (v1 : Int) ≠ 0 := by rw [u64W hv1]; omega
    have hnum : un * W + un1 < 18446744073709551616 := by unfold W at *; omega
    rw [u64W hun, or32 hun hun1, u64W hv1, tdivn, tmodn, u64n (n := (un * W + un1) / v1) (Nat.lt_of_le_of_lt (Nat.div_le_self _ _) hnum)]
    refine ⟨by omega, by omega, ?_⟩
    have hPpos : 0 < W ^ n := Nat.pow_pos W_pos
    have hVle : (v1 * W + v2) * W ^ n ≤ V := by rw [hVtop]; omega
    have hVlt : V < (v1 * W + v2 + 1) * W ^ n := by rw [hVtop, Nat.add_mul _ 1]; omega
    have hXle : ((un * W + un1) * W + un2) * W ^ n ≤ X := by omega
    have hXlt : X < ((un * W + un1) * W + un2 + 1) * W ^ n := by rw [Nat.add_mul _ 1]; omega
    have hunv : un ≤ v1 := by
      refine un_le (X := X) (V := V) (P := W ^ n) (w := W) (v1 := v1) (v2 := v2) ?_ (Nat.le_of_lt hVlt) hXV hv2
      refine Nat.le_trans (Nat.mul_le_mul_right _ ?_) hXle
      rw [Nat.add_mul]; omega
    have hqW : X / V < W := (Nat.div_lt_iff_lt_mul hVpos).2 (by rw [Nat.mul_comm]; exact hXV)
    -- the estimate
    refine joinP_inv (fun st h' => h' = h3 ∧ ∃ qh : Nat, st = ((qh : Int), ()) ∧ qh < W ∧ X / V ≤ qh ∧ qh ≤ X / V + 1) ?_ ?_
    · rintro _ h' ⟨rfl, qh, rfl, hqh, hq1, hq2⟩
      -- subtracting, and restoring
      refine joinP_inv (fun st h5 => st = (((X / V : Nat) : Int), ()) ∧ ∃ L2, LeX a13.block h' h5 ∧ OwnW h h5 u L2 ∧ okW L2 ∧ L2.length = N + 1 ∧ vl L2 + W ^ j * (X / V * V) = vl L ∧ vl (L2.drop j) < V) ?_ ?_
      · rintro _ h5 ⟨rfl, L2, hle5, hoL2, okL2, hL2l, hv2L, hL2V⟩
        have hor5 : OwnW h h5 q r := hor.leX hle5 hb13 hq13
        refine st_wordX j (X / V) ha16 hor5 rfl (by omega) (u32lt hqW) fun h6 hl6 ho6 => ?_
        exact ⟨⟨j, L2, _, by rw [w64 (by omega)], by omega, hoL2.leX hl6 hb16h hu16, okL2, hL2l, ho6, ok_set okr hqW, by simp [hrl], (hv3.leX hle5 hne13).leX hl6 hne16, hL2V, dig_step rfl hval hv2L (by omega)⟩, by rw [w64 (by omega)]; omega⟩
      · refine slP_of j (j + (n + 2) + 1) rfl rfl (by omega) (by omega) ?_
        refine callM_of ?_
        have e0 : j + (n + 2) + 1 = j + (dg V).length + 1 := by omega
        rw [e0]
        refine sub_of ha13 hoL okL hv3 (ok_dg V) hne13 (by omega) hqh (by omega) fun h6 L1 b hle6 hoL1 okL1 hL1l htk hdr hb hsv => ?_
        rw [vl_dg, hVn] at hsv
        rw [hVn] at hdr
        have hwin := win (e := n + 2 + 1) hL1l (by omega) htk (by rw [← Nat.add_assoc]; exact hsv)
        rw [hX0] at hwin
        have hlt1 : vl (L1.drop j) < W ^ (n + 2 + 1) := win_lt okL1 (by omega) (by rw [← Nat.add_assoc]; exact hdr) hz0
        refine ifP_eq (fun hb1 => ?_) (fun hb1 => ?_)
        · obtain rfl : b = 1 := by omega
          refine slP_of j (j + (dg V).length + 1) rfl (by rw [hVn]) (by omega) (by have := hoL1.2.2.1; have := hoL1.len; omega) ?_
          refine callM_of ?_
          refine restore_of ha13 hoL1 okL1 (hv3.leX hle6 hne13) (ok_dg V) hne13 (by omega) (by omega) fun h7 L2 c hle7 hoL2 okL2 hL2l htk2 hdr2 hc hrv => ?_
          rw [vl_dg, hVn] at hrv
          rw [hVn] at hdr2
          have hz1 : vl (L1.drop (j + (n + 2 + 1))) = 0 := by rw [← Nat.add_assoc, hdr, Nat.add_assoc]; exact hz0
          have hlt2 : vl (L2.drop j) < W ^ (n + 2 + 1) := win_lt okL2 (by omega) (by rw [← Nat.add_assoc]; exact hdr2) hz1
          obtain ⟨rfl, g2, g3⟩ := ks1 hVpos hq1 hq2 hX0 hL1l hL2l (by omega) htk htk2 hwin hlt1 hlt2 hc (by rw [← Nat.add_assoc]; exact hrv)
          refine ⟨?_, L2, hle6.trans hle7, hoL2, okL2, by rw [hL2l, hL1l, hLl], g2, g3⟩
          simp only
          rw [pred_cast, u64W hqW]
        · obtain rfl : b = 0 := by omega
          obtain ⟨rfl, g2⟩ := ks0 hVpos hq1 hwin
          refine ⟨rfl, L1, hle6, hoL1, okL1, by rw [hL1l, hLl], ?_, g2⟩
          rw [Nat.mul_zero, Nat.add_zero] at hsv; exact hsv
    · -- the loop of the estimate
      refine loopP_of (fun st h' => h' = h3 ∧ ∃ qh rh : Nat, st = ((qh : Int), (rh : Int), ()) ∧ qh * v1 + rh = un * W + un1 ∧ rh < W ∧ X / V ≤ qh ∧ qh < 18446744073709551616) (fun st => st.1.toNat) ⟨rfl, _, _, rfl, by rw [Nat.mul_comm]; exact Nat.div_add_mod _ _, Nat.lt_of_lt_of_le (Nat.mod_lt _ hv1p) (Nat.le_of_lt hv1), ?_, Nat.lt_of_le_of_lt (Nat.div_le_self _ _) hnum⟩ ?_
      · exact first_est hPpos hv1p hVle hXlt hun2
      · rintro _ h' ⟨rfl, qh, rh, rfl, hqr, hrh, hq1, hq64⟩
        refine joinP_inv (fun _ h5 => h5 = h' ∧ X / V < qh) ?_ ?_
        · rintro _ h5 ⟨rfl, hlt5⟩
          have hqp : 0 < qh := Nat.lt_of_le_of_lt (Nat.zero_le _) hlt5
          have hqm : X / V ≤ qh - 1 := Nat.le_sub_one_of_lt hlt5
          have e1 : IntKind.u64.wrap ((rh : Int) + (v1 : Int)) = ((rh + v1 : Nat) : Int) := by
            rw [show (rh : Int) + (v1 : Int) = ((rh + v1 : Nat) : Int) by omega, u64n (by unfold W at *; omega)]
          have e2 : IntKind.u64.wrap ((qh : Int) - 1) = ((qh - 1 : Nat) : Int) := by
            rw [show (qh : Int) - 1 = ((qh - 1 : Nat) : Int) by omega, u64n (by omega)]
          have e3 : (qh - 1) * v1 + (rh + v1) = un * W + un1 := by
            obtain ⟨q1, rfl⟩ : ∃ q1, qh = q1 + 1 := ⟨qh - 1, by omega⟩
            rw [Nat.add_mul] at hqr
            simp only [Nat.add_sub_cancel]
            omega
          simp only
          rw [e1, e2]
          refine ifP_dec (fun h6 => ?_) (fun h6 => ?_)
          · have h7 := knuth_exit (w := W) (by decide) hXle hVlt hVpos hPpos e3 rfl hv1b hunv hun1 hv2 hun2 (.inl (by unfold W; omega))
            exact ⟨by trivial, qh - 1, rfl, h7.1, hqm, h7.2⟩
          · exact ⟨⟨by trivial, qh - 1, rh + v1, rfl, e3, by unfold W; omega, hqm, by omega⟩, by omega⟩
        · refine ifP_dec (fun h6 => ?_) (fun h6 => ?_)
          · refine ⟨by trivial, ?_⟩
            simp only at h6
            exact knuth_down hXlt hVle hVpos hqr hXV (.inl (by unfold W; omega))
          · simp only at h6
            refine ⟨by decide, rd_wordD (j + n) hoL.rdW rfl (by omega) fun a5 ha5 => ⟨_, ha5, ?_⟩⟩
            have hqW2 : qh < W := by unfold W; omega
            have e1 : IntKind.u64.wrap ((qh : Int) * IntKind.u64.wrap (v2 : Int)) = ((qh * v2 : Nat) : Int) := by
              rw [u64W hv2, show (qh : Int) * (v2 : Int) = ((qh * v2 : Nat) : Int) by simp]
              refine u64n ?_
              have : qh * v2 ≤ 4294967295 * 4294967295 := Nat.mul_le_mul (by unfold W at *; omega) (by unfold W at *; omega)
              omega
            rw [hun2e]
            simp only
            rw [e1, or32 hrh hun2]
            refine ifP_dec (fun h7 => ?_) (fun h7 => ?_)
            · refine ⟨by trivial, ?_⟩
              exact knuth_down hXlt hVle hVpos hqr hXV (.inr (by omega))
            · have h8 := knuth_exit (w := W) (by decide) hXle hVlt hVpos hPpos hqr rfl hv1b hunv hun1 hv2 hun2 (.inr ⟨hqW2, by omega⟩)
              exact ⟨by trivial, qh, rfl, h8.1, hq1, h8.2⟩
  · obtain rfl : k = 0 := by have : ¬ (k : Int) - 1 ≥ 0 := h4; omega
    simp only [List.drop_zero, Nat.pow_zero, Nat.one_mul] at hlt hval
    have hVq : A / B = vl r := by
      have h5 : A * 2 ^ s / (B * 2 ^ s) = A / B := Nat.mul_div_mul_right _ _ (Nat.two_pow_pos s)
      rw [hV, hval, Nat.mul_add_div hVpos, Nat.div_eq_of_lt hlt, Nat.add_zero] at h5
      exact h5.symm
    have hVr : vl L = A % B * 2 ^ s := by
      have h5 : A * 2 ^ s % (B * 2 ^ s) = A % B * 2 ^ s := Nat.mul_mod_mul_right _ _ _
      rw [hV, hval, Nat.mul_add_mod, Nat.mod_eq_of_lt hlt] at h5
      exact h5
    refine slP_of 0 (n + 2) rfl (by omega) (by omega) (by omega) ?_
    have hcut := hoL.rdW.cut 0 (n + 2) (by omega) (by omega)
    rw [List.drop_zero, Nat.sub_zero] at hcut
    have hcv : vl (L.take (n + 2)) = vl L := by
      have e1 := vl_take_drop (l := L) (k := n + 2) (by omega)
      have e2 := vl_drop_zero (a := 0) (b := n + 2) okL (by rw [List.drop_zero]; exact Nat.lt_trans hlt hVu)
      rw [Nat.zero_add] at e2
      rw [e2] at e1; omega
    refine trim_call hor.rdW (by omega) fun z1 hz1 => ?_
    rw [trim_eq okr, ← hVq] at hz1
    refine trim_call hcut (by rw [List.length_take]; omega) fun z2 hz2 => ?_
    rw [trim_eq (ok_take okL _), hcv] at hz2
    have hz2l : (dg (vl L)).length ≤ n + 2 := dg_len.2 (Nat.lt_trans hlt hVu)
    refine shr_call hz2 (ok_dg _) hs31 (by omega) fun z3 h5 r3 hl5 hz3 okr3 hr3l hr3v => ?_
    rw [vl_dg, hVr, Nat.mul_div_cancel _ (Nat.two_pow_pos s)] at hr3v
    refine trim_call hz3 (by omega) fun z4 hz4 => ?_
    rw [trim_eq okr3, hr3v] at hz4
    exact H _ _ _ (Hp.le_trans hoL.1 hl5) (hz1.le hl5) hz4
theorem divide_call {A B : Nat} (hx : RdW h x (dg A)) (hy : RdW h y (dg B)) (hB : B ≠ 0) (hl : (dg A).length ≤ 35184372088000) (hl2 : (dg B).length ≤ 35184372088000)
    (H : ∀ q r h', h.le h' → RdW h' q (dg (A / B)) → RdW h' r (dg (A % B)) → Kp (q, r) h') : callP (F.integer_divide x y) Kp h :=
  callP_of (fun v h' => RdW h' v.1 (dg (A / B)) ∧ RdW h' v.2 (dg (A % B))) (fun K' hk => divide_of hx hy hB hl hl2 fun q r h' h1 h2 h3 => hk _ _ h1 ⟨h2, h3⟩) fun v h' h1 ⟨h2, h3⟩ => H v.1 v.2 h' h1 h2 h3
end
end Den
end

section
set_option linter.unusedVariables false
set_option maxHeartbeats 4000000
namespace Iv
theorem set_drop {L : List Nat} {j i v : Nat} : (L.set (j + i) v).drop j = (L.drop j).set i v := by
  rw [List.drop_set, if_neg (by omega)]
  congr 1; omega
/-- One step of the long division with the true digit. -/
theorem true_dig {L L2 : List Nat} {X V j : Nat} (hV : 0 < V) (hX : vl (L.drop j) = X) (hl : L2.length = L.length) (hj : j ≤ L.length) (ht : L2.take j = L.take j) (h : vl (L2.drop j) = X - X / V * V) :
    vl L2 + W ^ j * (X / V * V) = vl L ∧ vl (L2.drop j) < V := by
  have hmd := Nat.div_mul_le_self X V
  have h5 := Nat.mod_add_div' X V
  have h6 := Nat.mod_lt X hV
  refine ⟨?_, by omega⟩
  have k0 := vl_take_drop hj
  have k2 := vl_take_drop (l := L2) (k := j) (by omega)
  rw [hX] at k0
  rw [ht] at k2
  rw [k2, k0, h]
  have : W ^ j * (X - X / V * V) + W ^ j * (X / V * V) = W ^ j * X := by
    rw [← Nat.mul_add]; congr 1; omega
  omega
end Iv
namespace Den
open Go Iv
section
variable {h : Hp} {x y : Sl} {l m : List Nat} {Ks : Sl → Hp → Prop} {Ki : Int → Hp → Prop} {Kp : (Sl × Sl) → Hp → Prop} {Kq : (Int × Sl) → Hp → Prop}

theorem rdivide_digit {n X V v1 v2 un un1 un2 : Nat} (hx : RdW h x l) (ol : okW l) (hll : l.length = n + 3) (hlX : vl l = X) (hy : RdW h y (dg V)) (hVn : (dg V).length = n + 2) (hn : n ≤ 35184372088000)
    (eun : l.getD (n + 2) 0 = un) (eun1 : l.getD (n + 1) 0 = un1) (ev1 : (dg V).getD (n + 1) 0 = v1) (hV0 : 0 < V) (hv1p : 0 < v1) (hVle : (v1 * W + v2) * W ^ n ≤ V) (hXlt : X < ((un * W + un1) * W + un2 + 1) * W ^ n) (hu2 : un2 < W) (hqW : X / V < W)
    (H : ∀ z h', h.le h' → RdW h' z (dg (X / V * V)) → Fresh h z → Kq (((X / V : Nat) : Int), z) h') : callP (F.ref01_digit x y) Kq h := by
  refine callP_of (fun v h' => v.1 = ((X / V : Nat) : Int) ∧ RdW h' v.2 (dg (X / V * V)) ∧ Fresh h v.2) (fun K' hk => ?_) fun ⟨v, z⟩ h' hl ⟨h1, h2, h3⟩ => by
    simp only at h1; subst h1
    exact H z h' hl h2 h3
  unfold F.ref01_digit
  have lx := hx.len
  have ly := hy.len
  have hun : un < W := by rw [← eun]; exact getD_lt ol _
  have hun1 : un1 < W := by rw [← eun1]; exact getD_lt ol _
  have hv1 : v1 < W := by rw [← ev1]; exact getD_lt (ok_dg V) _
  refine rd_wordD (n + 2) hx (by rw [ly, hVn]) (by omega) fun a1 ha1 => ⟨_, ha1, by decide, ?_⟩
  refine rd_wordD (n + 1) hx (by rw [ly, hVn, w64 (by omega)]; omega) (by omega) fun a2 ha2 => ⟨_, ha2, ?_⟩
  refine rd_wordD (n + 1) hy (by rw [ly, hVn, w64 (by omega)]; omega) (by omega) fun a3 ha3 => ⟨_, ha3, ?_⟩
  rw [eun, eun1, ev1]
  have hnum : un * W + un1 < 18446744073709551616 := by unfold W at *; omega
  simp only
  rw [u64W hun, or32 hun hun1, u64W hv1, tdivn, u64n (n := (un * W + un1) / v1) (Nat.lt_of_le_of_lt (Nat.div_le_self _ _) hnum)]
  refine ⟨by omega, ?_⟩
  have hfe := first_est (Nat.pow_pos W_pos) hv1p hVle hXlt hu2
  refine joinP_inv (fun st h' => h' = h ∧ ∃ e : Nat, st = ((e : Int), ()) ∧ e < W ∧ X / V ≤ e) ?_ ?_
  · rintro _ h' ⟨rfl, e, rfl, heW, hqe⟩
    simp only
    rw [u32lt heW]
    refine new_own (n := 1) (size := 1) rfl fun b h2 hb ho => ?_
    have ho' : OwnW h' h2 ⟨some ⟨b, 0, none⟩, 1, 1⟩ [e] := ho
    refine rtimesX_call (hy.le ho.1) ho'.rdW (ok_dg V) (fun d hd => by rw [List.mem_singleton.1 hd]; exact heW) (by simp; omega) fun z h3 hl3 hz hf => ?_
    rw [vl_dg] at hz
    have ez : V * vl [e] = e * V := by simp [vl, Nat.mul_comm]
    rw [ez] at hz
    refine loopP_of (fun st h4 => ∃ (e : Nat) (z : Sl), st = ((e : Int), z, ()) ∧ e < W ∧ X / V ≤ e ∧ h'.le h4 ∧ RdW h4 z (dg (e * V)) ∧ Fresh h' z) (fun st => st.1.toNat) ⟨e, z, rfl, heW, hqe, Hp.le_trans ho.1 hl3, hz, hf.le ho.1⟩ ?_
    rintro _ h4 ⟨e, z, rfl, heW, hqe, hl4, hz, hf⟩
    refine rtrim_call (hx.le hl4) (by omega) fun w hw => ?_
    rw [trim_eq ol, hlX] at hw
    have hXl : (dg X).length ≤ n + 3 := dg_len.2 (by rw [← hlX, ← hll]; exact vl_lt ol)
    have heVl : (dg (e * V)).length ≤ n + 3 := by
      refine dg_len.2 ?_
      have h5 : V < W ^ (n + 2) := by rw [← hVn]; exact dg_len.1 (Nat.le_refl _)
      rw [Nat.pow_succ, Nat.mul_comm]
      exact Nat.mul_lt_mul'' h5 heW
    refine rcompare_call hw hz (by omega) (by omega) ?_
    unfold cmpN
    by_cases hc : X < e * V
    · rw [if_pos hc]
      refine ifP_true rfl ?_
      have hlt : X / V < e := (Nat.div_lt_iff_lt_mul hV0).2 hc
      have hep : 0 < e := Nat.lt_of_le_of_lt (Nat.zero_le _) hlt
      have hVe : V ≤ e * V := Nat.le_mul_of_pos_left _ hep
      refine rminusX_call hz (hy.le hl4) (ok_dg _) (ok_dg V) (by omega) (dg_mono hVe) (by rw [vl_dg, vl_dg]; exact hVe) fun z2 h5 hl5 hz2 hf2 => ?_
      rw [vl_dg, vl_dg] at hz2
      have e6 : e * V - V = (e - 1) * V := by rw [Nat.sub_mul, Nat.one_mul]
      rw [e6] at hz2
      have e7 : IntKind.u64.wrap ((e : Int) - 1) = ((e - 1 : Nat) : Int) := by
        rw [show (e : Int) - 1 = ((e - 1 : Nat) : Int) by omega, u64W (by omega)]
      simp only
      rw [e7]
      exact ⟨⟨e - 1, z2, rfl, by omega, Nat.le_sub_one_of_lt hlt, Hp.le_trans hl4 hl5, hz2, hf2.le hl4⟩, by omega⟩
    · rw [if_neg hc]
      refine ifP_false (by split <;> rfl) ?_
      have h5 : e * V ≤ X := Nat.le_of_not_lt hc
      have h6 := (Nat.le_div_iff_mul_le hV0).2 h5
      have h7 : e = X / V := Nat.le_antisymm h6 hqe
      simp only
      rw [h7] at hz ⊢
      exact hk _ _ hl4 ⟨u32lt hqW, hz, hf⟩
  · refine ifP_dec (fun h1 => ?_) (fun h1 => ?_)
    · exact ⟨rfl, 4294967295, rfl, by decide, by unfold W at hqW; exact Nat.le_of_lt_succ hqW⟩
    · have h2 : (un * W + un1) / v1 ≤ 4294967295 := by
        clear H hfe hXlt hVle hqW
        generalize (un * W + un1) / v1 = z at *
        omega
      exact ⟨rfl, _, rfl, Nat.lt_of_le_of_lt h2 (by decide), hfe⟩

theorem lengthN_call {n N : Nat} (hx : RdW h x (dg n)) (hN : (dg n).length = N + 1) (hl : (dg n).length ≤ 35184372088800) (H : Ki ((32 * N + bl ((dg n)[N]'(by omega)) : Nat) : Int) h) : callP (F.ref01_length x) Ki h := by
  refine length_call hx hl ?_
  rw [dif_neg (by omega)]
  have e1 : (dg n)[(dg n).length - 1]'(by omega) = (dg n)[N]'(by omega) := by congr 1; omega
  rw [e1]
  have e2 : (dg n).length - 1 = N := by omega
  generalize hq : bl ((dg n)[N]'(by omega)) = q at *
  rw [e2]; exact H

theorem rdivide_of {A B : Nat} (hx : RdW h x (dg A)) (hy : RdW h y (dg B)) (hB : B ≠ 0) (hl : (dg A).length ≤ 35184372088000) (hl2 : (dg B).length ≤ 35184372088000)
    (H : ∀ q r h', h.le h' → RdW h' q (dg (A / B)) → RdW h' r (dg (A % B)) → Kp (q, r) h') : F.ref01_divide x y Kp h := by
  unfold F.ref01_divide
  have lx := hx.len
  have ly := hy.len
  refine rcompare_call hx hy (by omega) (by omega) ?_
  unfold cmpN
  by_cases hAB : A < B
  · rw [if_pos hAB]
    refine ifP_true rfl ?_
    refine H _ _ _ (Hp.le_refl _) ?_ ?_
    · rw [Nat.div_eq_of_lt hAB, dg_zero]; exact RdW.nil
    · rw [Nat.mod_eq_of_lt hAB]; exact hx
  rw [if_neg hAB]
  refine ifP_false (by split <;> rfl) ?_
  have hBl := dg_mono (Nat.le_of_not_lt hAB)
  have hB0 : (dg B).length ≠ 0 := fun h0 => hB (dg_nil.1 (List.length_eq_zero_iff.1 h0))
  refine ifP_dec (fun h1 => ?_) (fun h1 => ?_)
  · refine short_call hx (ok_dg A) (by omega) (short_call hy (ok_dg B) (by omega) ?_)
    rw [vl_dg, vl_dg]
    have hA64 : A < 18446744073709551616 := by
      have := (dg_len (n := A) (k := 2)).1 (by omega)
      have e : W ^ 2 = 18446744073709551616 := by decide
      omega
    have hq : A / B ≤ A := Nat.div_le_self A B
    have hr : A % B ≤ A := Nat.mod_le A B
    refine ⟨by omega, by omega, ?_⟩
    rw [tdivn, tmodn, u64n (by omega)]
    refine words_call rfl (by omega) fun z h4 hl4 hz => words_call rfl (by omega) fun w h5 hl5 hw => ?_
    exact H _ _ _ (Hp.le_trans hl4 hl5) (hz.le hl5) hw
  refine ifP_eq (fun h2 => ?_) (fun h2 => ?_)
  · have hB1 := dg_len1 (B := B) (by omega)
    have hBW : B < W := ok_dg B B (by rw [hB1]; exact List.mem_singleton.2 rfl)
    refine rd_wordD 0 hy rfl (by omega) fun a ha => ⟨_, ha, ?_⟩
    have e0 : (dg B).getD 0 0 = B := by rw [hB1]; rfl
    rw [e0]
    refine by_call hx (ok_dg A) (Nat.pos_of_ne_zero hB) hBW (by omega) fun z h3 hl3 hz => ?_
    rw [vl_dg] at hz ⊢
    have := Nat.mod_lt A (Nat.pos_of_ne_zero hB)
    simp only
    rw [u64W (Nat.lt_trans this hBW)]
    refine words_call rfl (by unfold W at hBW; omega) fun w h5 hl5 hw => H _ _ _ (Hp.le_trans hl3 hl5) (hz.le hl5) hw
  -- the long division
  obtain ⟨n, hn⟩ : ∃ n, (dg B).length = n + 2 := ⟨(dg B).length - 2, by omega⟩
  obtain ⟨N, hN⟩ : ∃ N, (dg A).length = N := ⟨_, rfl⟩
  obtain ⟨s, hs, hbl, hs31, hVl, hVu⟩ := norm_top (B := B) (n := n + 1) hn
  refine lengthN_call hy hn (by omega) ?_
  have es : IntKind.i64.wrap (IntKind.i64.wrap (32 * (y.len : Int)) - ((32 * (n + 1) + bl (dg B)[n + 1] : Nat) : Int)) = (s : Int) := by
    rw [hs]
    generalize bl (dg B)[n + 1] = z at *
    rw [ly, hn, w64 (n := 32 * ((n + 2 : Nat) : Int)) (by omega), w64 (by omega)]
    omega
  rw [es]
  refine rshl_call hx (ok_dg A) hs31 (by omega) fun u h9 U ho9 okU hUl hUv => ?_
  rw [vl_dg] at hUv
  refine rshl_call (hy.le ho9.1) (ok_dg B) hs31 (by omega) fun v0 h10 V0 ho10 okV0 hV0l hV0v => ?_
  rw [vl_dg] at hV0v
  refine rtrimX_call ho10.rdW (by omega) fun v hv hsub => ?_
  rw [trim_eq okV0, hV0v] at hv
  generalize hV : B * 2 ^ s = V at *
  have hVpos : 0 < V := Nat.lt_of_lt_of_le (Nat.mul_pos (Nat.pow_pos W_pos) (by decide)) hVl
  have hVn : (dg V).length = n + 2 := norm_len hVl hVu
  have lu := ho9.len
  have lv := hv.len
  have hN2 : n + 2 ≤ N := by omega
  refine mk_word N N (by omega) (by omega) (by omega) (by omega) fun q h12 hq ho12 => ?_
  -- where things lie
  obtain ⟨a13, ha13, hb13, hc13⟩ := Own.some ho9 (by omega)
  obtain ⟨a16, ha16, hb16, hc16⟩ := Own.some ho12 (by simp; omega)
  have hlh : h.le h10 := Hp.le_trans ho9.1 ho10.1
  have hb16h : h a16.block = none := Hp.none_of_le hlh hb16
  have ne16 : a13.block ≠ a16.block := fun hh => by
    have h3 := Hp.none_of_le ho10.1 hb16
    rw [← hh] at h3; exact hc13 h3
  have hvne : ∀ a, v.a = some a → a.block ≠ a13.block ∧ a.block ≠ a16.block := fun a ha => by
    obtain ⟨a', h3, h4⟩ := hsub a ha
    rw [h4]
    constructor
    · exact apart_of ho9 ho10 a13 a' ha13 h3 |>.symm
    · exact apart_of ho10 ho12 a' a16 h3 ha16
  have hne13 : ∀ a, v.a = some a → a.block ≠ a13.block := fun a ha => (hvne a ha).1
  have hne16 : ∀ a, v.a = some a → a.block ≠ a16.block := fun a ha => (hvne a ha).2
  have hu16 : ∀ a, u.a = some a → a.block ≠ a16.block := fun a ha => by rw [ha13] at ha; cases ha; exact ne16
  have hq13 : ∀ a, q.a = some a → a.block ≠ a13.block := fun a ha => by rw [ha16] at ha; cases ha; exact ne16.symm
  have hou : OwnW h h12 u U := (ho9.le ho10.1).le ho12.1
  have hoq : OwnW h h12 q (List.replicate N 0) := ho12.base hlh
  have hv12 : RdW h12 v (dg V) := hv.le ho12.1
  obtain ⟨P, lo2, hP, hlo2, hVtop, _⟩ := top2 (ok_dg V) (n := n) hVn
  rw [vl_dg] at hVtop
  have hv1 : (dg V).getD (n + 1) 0 < W := getD_lt (ok_dg V) _
  have hv2 : (dg V).getD n 0 < W := getD_lt (ok_dg V) _
  generalize hgv1 : (dg V).getD (n + 1) 0 = v1 at *
  generalize hgv2 : (dg V).getD n 0 = v2 at *
  subst hP
  have hv1b : W ≤ 2 * v1 := top_half hVl hVtop hlo2 hv2
  have hAl : A < W ^ N := dg_len.1 (by omega)
  have hfirst : vl (U.drop (N - (n + 1))) < V := first_lt (n := n + 1) (by omega) hUv hAl hs31 (by omega) hVl
  refine loopP_of (fun st h' => ∃ (k : Nat) (L r : List Nat), st = ((k : Int) - 1, ()) ∧ k ≤ N - n - 1 ∧ OwnW h h' u L ∧ okW L ∧ L.length = N + 1 ∧ OwnW h h' q r ∧ okW r ∧ r.length = N ∧ RdW h' v (dg V) ∧ h' a13.block ≠ none ∧ h' a16.block ≠ none ∧
      vl (L.drop k) < V ∧ A * 2 ^ s = V * (W ^ k * vl (r.drop k)) + vl L) (fun st => (st.1 + 1).toNat)
    ⟨N - n - 1, U, _, by rw [lv, hVn, lx, hN, w64 (by omega)]; congr 1; omega, Nat.le_refl _, hou, okU, by omega, hoq, ok_rep _, by simp, hv12, ?_, hc16, by rw [show N - n - 1 = N - (n + 1) by omega]; exact hfirst, by rw [List.drop_replicate, vl_rep, hUv]; simp⟩ ?_
  · have : h9.le h12 := Hp.le_trans ho10.1 ho12.1
    intro hh; exact hc13 (Hp.none_of_le this hh)
  rintro st h3 ⟨k, L, r, rfl, hk, hoL, okL, hLl, hor, okr, hrl, hv3, hn13, hn16, hlt, hval⟩
  have llu := hoL.len
  have hucap := hoL.2.2.1
  refine ifP_dec (fun h4 => ?_) (fun h4 => ?_)
  · obtain ⟨j, rfl⟩ : ∃ j, k = j + 1 := ⟨k - 1, by have : (k : Int) - 1 ≥ 0 := h4; omega⟩
    have hji : ((j + 1 : Nat) : Int) - 1 = (j : Int) := by omega
    have wj : IntKind.i64.wrap ((j : Int) + (v.len : Int)) = ((j + (n + 2) : Nat) : Int) := by rw [lv, hVn, w64 (by omega)]; omega
    have wj3 : IntKind.i64.wrap (((j + (n + 2) : Nat) : Int) + 1) = ((j + (n + 3) : Nat) : Int) := by rw [w64 (by omega)]; omega
    simp only [hji, wj, wj3]
    -- the window
    have hlt2 : vl (L.drop (j + 1)) < W ^ (n + 2) := Nat.lt_trans hlt hVu
    have hz0 : vl (L.drop (j + (n + 3))) = 0 := by
      have := vl_drop_zero okL hlt2
      rw [show j + 1 + (n + 2) = j + (n + 3) by omega] at this
      exact this
    obtain ⟨lo, hlo, hX⟩ := win_top (n := n) okL (j := j) (by omega) hz0
    have hun2 : L.getD (j + n) 0 < W := getD_lt okL _
    have hXV : vl (L.drop j) < V * W := win_lt_V okL (by omega) hlt
    have hwX : vl ((L.drop j).take (n + 3)) = vl (L.drop j) := by
      have e1 := vl_take_drop (l := L.drop j) (k := n + 3) (by rw [List.length_drop]; omega)
      rw [List.drop_drop, hz0] at e1; omega
    have hg : ∀ i, i < n + 3 → ((L.drop j).take (n + 3)).getD i 0 = L.getD (j + i) 0 := fun i hi => by
      simp only [List.getD_eq_getElem?_getD, List.getElem?_take, hi, if_true, List.getElem?_drop]
    have hcut := hoL.rdW.cut j (j + (n + 3)) (by omega) (by omega)
    rw [show j + (n + 3) - j = n + 3 by omega] at hcut
    refine slP_of j (j + (n + 3)) rfl rfl (by omega) (by omega) ?_
    generalize hX0 : vl (L.drop j) = X at *
    have hv1p : 0 < v1 := by unfold W at hv1b; omega
    have hVle : (v1 * W + v2) * W ^ n ≤ V := by rw [hVtop]; omega
    have hXlt : X < ((L.getD (j + (n + 2)) 0 * W + L.getD (j + (n + 1)) 0) * W + L.getD (j + n) 0 + 1) * W ^ n := by rw [Nat.add_mul _ 1]; omega
    have hqW : X / V < W := (Nat.div_lt_iff_lt_mul hVpos).2 (by rw [Nat.mul_comm]; exact hXV)
    have hwl : ((L.drop j).take (n + 3)).length = n + 3 := by rw [List.length_take, List.length_drop]; omega
    refine rdivide_digit (X := X) hcut (ok_take (ok_drop okL _) _) hwl hwX hv3 hVn (by omega) (hg _ (by omega)) (hg _ (by omega)) hgv1 hVpos hv1p hVle hXlt hun2 hqW fun z h5 hl5 hz hfz => ?_
    have hoL5 : OwnW h h5 u L := hoL.le hl5
    have hor5 : OwnW h h5 q r := hor.le hl5
    have hz16 := hfz.ne hn16
    refine st_wordX j (X / V) ha16 hor5 rfl (by omega) rfl fun h6 hl6 hor6 => ?_
    have hoL6 : OwnW h h6 u L := hoL5.leX hl6 hb16h hu16
    have hcut6 := hoL6.rdW.cut j (j + (n + 3)) (by omega) (by omega)
    rw [show j + (n + 3) - j = n + 3 by omega] at hcut6
    have hz6 := hz.leX hl6 hz16
    have hn13' : h6 a13.block ≠ none := by
      cases hh : h5 a13.block with
      | none => exact absurd (Hp.none_of_le hl5 hh) hn13
      | some B2 => rw [hl6 _ _ ne16 hh]; exact fun e => by cases e
    refine rtrim_call hcut6 (by rw [hwl]; omega) fun w hw => ?_
    rw [trim_eq (ok_take (ok_drop okL _) _), hwX] at hw
    have hXl : (dg X).length ≤ n + 3 := dg_len.2 (by have := vl_lt (ok_take (ok_drop okL j) (n + 3)); rw [hwX, hwl] at this; exact this)
    have hmd := Nat.div_mul_le_self X V
    refine rminusX_call hw hz6 (ok_dg X) (ok_dg _) (by omega) (dg_mono hmd) (by rw [vl_dg, vl_dg]; exact hmd) fun r21 h7 hl7 hr21 hf21 => ?_
    rw [vl_dg, vl_dg] at hr21
    have hoL7 : OwnW h h7 u L := hoL6.le hl7
    have hne21 := hf21.ne hn13'
    have h21l : (dg (X - X / V * V)).length ≤ n + 3 := by have := dg_mono (Nat.sub_le X (X / V * V)); omega
    have l21 := hr21.len
    refine loopP_of (fun st h' => ∃ (i : Nat) (L' : List Nat), st = ((i : Int), ()) ∧ i ≤ n + 3 ∧ LeX a13.block h7 h' ∧ OwnW h h' u L' ∧ okW L' ∧ L'.length = N + 1 ∧ L'.take j = L.take j ∧ L'.drop (j + (n + 3)) = L.drop (j + (n + 3)) ∧
        vl ((L'.drop j).take i) = vl ((dg (X - X / V * V)).take i)) (fun st => ((n + 3 : Nat) - st.1).toNat) ⟨0, L, rfl, Nat.zero_le _, LeX.refl, hoL7, okL, hLl, rfl, rfl, by simp [vl]⟩ ?_
    rintro st h8 ⟨i, L', rfl, hi, hle8, hoL8, okL8, hL8l, ht8, hd8, hv8⟩
    have lc8 : (u.cut j (j + (n + 3)) 1).len = n + 3 := by show j + (n + 3) - j = n + 3; omega
    have llu8 := hoL8.len
    have hucap8 := hoL8.2.2.1
    refine ifP_dec (fun h9 => ?_) (fun h9 => ?_)
    · have hi' : i < n + 3 := by have : (i : Int) < ((u.cut j (j + (n + 3)) 1).len : Int) := h9; rw [lc8] at this; omega
      have hgw := getD_lt (ok_dg (X - X / V * V)) i
      refine joinP_inv (fun _ h' => LeX a13.block h7 h' ∧ OwnW h h' u (L'.set (j + i) ((dg (X - X / V * V)).getD i 0))) ?_ ?_
      · rintro _ h' ⟨hle9, hoL9⟩
        refine ⟨⟨i + 1, _, by rw [w64 (by simp only; omega)]; rfl, by omega, hle9, hoL9, ok_set okL8 hgw, by simp [hL8l], by rw [setj_take (by omega)]; exact ht8, by rw [setj_drop (by omega)]; exact hd8, ?_⟩, by simp only; rw [w64 (by omega)]; omega⟩
        rw [set_drop, vl_set_take (by rw [List.length_drop]; omega), vl_takeD, hv8]
      · refine idxP_cut rfl (by omega) (by omega) (st_wordX (j + i) 0 ha13 hoL8 rfl (by omega) rfl fun h10 hl10 ho10' => ?_)
        refine ifP_dec (fun h11 => ?_) (fun h11 => ?_)
        · have hi2 : i < (dg (X - X / V * V)).length := by have : (i : Int) < (r21.len : Int) := h11; omega
          refine rd_wordD i ((hr21.leX hle8 hne21).leX hl10 hne21) rfl hi2 fun a5 ha5 => ⟨_, ha5, ?_⟩
          refine idxP_cut rfl (by omega) (by omega) (st_wordX (j + i) _ ha13 ho10' rfl (by simp; omega) rfl fun h12 hl12 ho12' => ⟨(hle8.trans hl10).trans hl12, ?_⟩)
          rw [List.set_set] at ho12'
          exact ho12'
        · have hi2 : (dg (X - X / V * V)).length ≤ i := by have : ¬ (i : Int) < (r21.len : Int) := h11; omega
          rw [getD_none hi2]
          exact ⟨hle8.trans hl10, ho10'⟩
    · have hi' : i = n + 3 := by have : ¬ (i : Int) < ((u.cut j (j + (n + 3)) 1).len : Int) := h9; rw [lc8] at this; omega
      subst hi'
      rw [List.take_of_length_le h21l, vl_dg] at hv8
      have hv9 : vl (L'.drop j) = X - X / V * V := by
        have e1 := vl_take_drop (l := L'.drop j) (k := n + 3) (by rw [List.length_drop]; omega)
        rw [List.drop_drop, hd8, hz0] at e1
        omega
      obtain ⟨g2, g3⟩ := true_dig hVpos hX0 (by omega) (by omega) ht8 hv9
      have hn13'' : h8 a13.block ≠ none := by
        obtain ⟨a, e1, _, e3⟩ := Own.some hoL8 (by omega)
        rw [ha13] at e1; cases e1; exact e3
      have hor8 : OwnW h h8 q (r.set j (X / V)) := (hor6.le hl7).leX hle8 hb13 hq13
      have hn16' : h8 a16.block ≠ none := by
        obtain ⟨a, e1, _, e3⟩ := Own.some hor8 (by simp; omega)
        rw [ha16] at e1; cases e1; exact e3
      exact ⟨⟨j, L', _, by rw [w64 (by omega)], by omega, hoL8, okL8, hL8l, hor8, ok_set okr hqW, by simp [hrl], (((hv3.le hl5).leX hl6 hne16).le hl7).leX hle8 hne13, hn13'', hn16', g3, dig_step rfl hval g2 (by omega)⟩, by rw [w64 (by omega)]; omega⟩
  · obtain rfl : k = 0 := by have : ¬ (k : Int) - 1 ≥ 0 := h4; omega
    simp only [List.drop_zero, Nat.pow_zero, Nat.one_mul] at hlt hval
    have hVq : A / B = vl r := by
      have h5 : A * 2 ^ s / (B * 2 ^ s) = A / B := Nat.mul_div_mul_right _ _ (Nat.two_pow_pos s)
      rw [hV, hval, Nat.mul_add_div hVpos, Nat.div_eq_of_lt hlt, Nat.add_zero] at h5
      exact h5.symm
    have hVr : vl L = A % B * 2 ^ s := by
      have h5 : A * 2 ^ s % (B * 2 ^ s) = A % B * 2 ^ s := Nat.mul_mod_mul_right _ _ _
      rw [hV, hval, Nat.mul_add_mod, Nat.mod_eq_of_lt hlt] at h5
      exact h5
    refine rtrim_call hor.rdW (by omega) fun z1 hz1 => ?_
    rw [trim_eq okr, ← hVq] at hz1
    refine rtrim_call hoL.rdW (by omega) fun z2 hz2 => ?_
    rw [trim_eq okL] at hz2
    have hz2l : (dg (vl L)).length ≤ n + 2 := dg_len.2 (Nat.lt_trans hlt hVu)
    refine back_call hz2 (ok_dg _) hs31 (by omega) fun z3 h5 hl5 hz3 => ?_
    rw [vl_dg, hVr, Nat.mul_div_cancel _ (Nat.two_pow_pos s)] at hz3
    exact H _ _ _ (Hp.le_trans hoL.1 hl5) (hz1.le hl5) hz3
theorem rdivide_call {A B : Nat} (hx : RdW h x (dg A)) (hy : RdW h y (dg B)) (hB : B ≠ 0) (hl : (dg A).length ≤ 35184372088000) (hl2 : (dg B).length ≤ 35184372088000)
    (H : ∀ q r h', h.le h' → RdW h' q (dg (A / B)) → RdW h' r (dg (A % B)) → Kp (q, r) h') : callP (F.ref01_divide x y) Kp h :=
  callP_of (fun v h' => RdW h' v.1 (dg (A / B)) ∧ RdW h' v.2 (dg (A % B))) (fun K' hk => rdivide_of hx hy hB hl hl2 fun q r h' h1 h2 h3 => hk _ _ h1 ⟨h2, h3⟩) fun v h' h1 ⟨h2, h3⟩ => H v.1 v.2 h' h1 h2 h3
end
end Den
end

section
set_option linter.unusedVariables false
namespace Den
open Go Iv

theorem least_of {P : Nat → Prop} (h : ∃ n, P n) : ∃ n, P n ∧ ∀ m, P m → n ≤ m := by
  obtain ⟨n, hn⟩ := h
  induction n using Nat.strongRecOn with
  | _ n ih =>
    by_cases hm : ∃ m, m < n ∧ P m
    · obtain ⟨m, h1, h2⟩ := hm
      exact ih m h1 h2
    · exact ⟨n, hn, fun m h2 => by
        rcases Nat.lt_or_ge m n with h3 | h3
        · exact absurd ⟨m, h3, h2⟩ hm
        · exact h3⟩
open Classical in
noncomputable def leastN (P : Nat → Prop) : Nat := if h : ∃ n, P n then Classical.choose (least_of h) else 0
theorem leastN_spec {P : Nat → Prop} {n : Nat} (h : P n) : P (leastN P) ∧ leastN P ≤ n := by
  have h1 : ∃ n, P n := ⟨n, h⟩
  unfold leastN
  rw [dif_pos h1]
  have := Classical.choose_spec (least_of h1)
  exact ⟨this.1, this.2 n h⟩
/-- A loop whose measure the invariant knows. -/
theorem loopP_wf {S : Type} {body : S → (S → Hp → Prop) → Hp → Prop} {s0 : S} {h0 : Hp} (I : Nat → S → Hp → Prop) (n0 : Nat) (h1 : I n0 s0 h0)
    (h2 : ∀ n s h, I n s h → ∀ K : S → Hp → Prop, (∀ s' h' n', n' < n → I n' s' h' → K s' h') → body s K h) : loopP body s0 h0 := by
  refine ⟨fun s h => ∃ n, I n s h, fun s h => leastN fun n => I n s h, ⟨n0, h1⟩, fun s h ⟨n, hI⟩ => ?_⟩
  have h3 := leastN_spec (P := fun n => I n s h) hI
  refine h2 _ s h h3.1 _ fun s' h' n' hn hI' => ⟨⟨n', hI'⟩, ?_⟩
  have h4 := leastN_spec (P := fun n => I n s' h') hI'
  exact Nat.lt_of_le_of_lt h4.2 hn

section
variable {h : Hp} {x y : Sl} {l : List Nat} {m n : Int} {a b : TInt} {Ks : Sl → Hp → Prop} {Ki : Int → Hp → Prop} {Kb : Bool → Hp → Prop} {KI : TInt → Hp → Prop} {KP : (TInt × TInt × Int) → Hp → Prop}

theorem gcd_step (x y : Nat) : Nat.gcd y (x % y) = Nat.gcd x y := by
  rw [Nat.gcd_comm x y, Nat.gcd_rec y x, Nat.gcd_comm]
theorem GCD_callX (ha : NI h a m) (hb : NI h b n) (om : (dg m.natAbs).length ≤ 35184372087808) (on : (dg n.natAbs).length ≤ 35184372087808) (H : ∀ z h', h.le h' → NI h' z (Nat.gcd m.natAbs n.natAbs : Nat) → KI z h') : callP (F.integer_GCD a b) KI h := by
  refine callP_of _ (fun K' hk => ?_) H
  unfold F.integer_GCD
  refine trimN_callX ha om fun x hx => trimN_callX hb on fun y hy => ?_
  have om' := om
  have on' := on
  refine joinP_inv (fun st h' => h.le h' ∧ ∃ A B : Nat, RdW h' st.1 (dg A) ∧ RdW h' st.2.1 (dg B) ∧ (dg A).length ≤ 35184372087808 ∧ Nat.gcd A B = Nat.gcd m.natAbs n.natAbs ∧ (dg B).length ≤ 2 ∧ (B ≠ 0 → (dg A).length ≤ 2)) ?_ ?_
  · rintro ⟨x, y, _⟩ h1 ⟨hl1, A, B, hA, hB, hAl, hg, hB2, hA2⟩
    simp only at hA hB ⊢
    have lB := hB.len
    refine ifP_eq (fun h2 => ?_) (fun h2 => ?_)
    · have hB0 : B = 0 := dg_nil.1 (List.length_eq_zero_iff.1 (by omega))
      subst hB0
      rw [Nat.gcd_zero_right] at hg
      refine clone_call hA (by omega) fun z h3 hl3 hz => signedN_call hz (by omega) fun w hw => hk _ _ (Hp.le_trans hl1 hl3) ?_
      rw [← hg]
      exact hw
    · have hB0 : B ≠ 0 := fun h0 => h2 (by rw [lB, h0, dg_zero]; rfl)
      have hA2' := hA2 hB0
      refine toUint_call hA (ok_dg A) hA2' fun h3 hl3 => toUint_call (hB.le hl3) (ok_dg B) hB2 fun h4 hl4 => ?_
      rw [vl_dg, vl_dg]
      have lt2 : ∀ {n : Nat}, (dg n).length ≤ 2 → n < 18446744073709551616 := fun hn => by
        have := (dg_len (k := 2)).1 hn
        have e : W ^ 2 = 18446744073709551616 := by decide
        omega
      refine loopP_of (fun st h' => h.le h' ∧ ∃ A B : Nat, st = ((A : Int), (B : Int), ()) ∧ A < 18446744073709551616 ∧ B < 18446744073709551616 ∧ Nat.gcd A B = Nat.gcd m.natAbs n.natAbs) (fun st => st.2.1.toNat)
        ⟨Hp.le_trans hl1 (Hp.le_trans hl3 hl4), A, B, rfl, lt2 hA2', lt2 hB2, hg⟩ ?_
      rintro _ h5 ⟨hl5, A, B, rfl, hA3, hB3, hg3⟩
      refine ifP_ne (fun h6 => ⟨h6, ?_⟩) (fun h6 => ?_)
      · have hB4 : B ≠ 0 := fun h0 => h6 (by rw [h0]; rfl)
        have := Nat.mod_lt A (Nat.pos_of_ne_zero hB4)
        simp only
        rw [tmodn]
        exact ⟨⟨hl5, B, A % B, rfl, hB3, by omega, by rw [gcd_step]; exact hg3⟩, by omega⟩
      · have hB4 : B = 0 := by simp only at h6; omega
        subst hB4
        rw [Nat.gcd_zero_right] at hg3
        have := dg2 hA3
        refine fromUint_call rfl hA3 fun z h7 hl7 hz => signedN_call hz (by omega) fun w hw => hk _ _ (Hp.le_trans hl5 hl7) ?_
        rw [← hg3]
        exact hw
  · refine loopP_wf (fun N st h' => h.le h' ∧ ∃ A : Nat, RdW h' st.1 (dg A) ∧ RdW h' st.2.1 (dg N) ∧ (dg A).length ≤ 35184372087808 ∧ (dg N).length ≤ 35184372087808 ∧ Nat.gcd A N = Nat.gcd m.natAbs n.natAbs) n.natAbs
      ⟨Hp.le_refl _, m.natAbs, hx, hy, om', on', rfl⟩ ?_
    rintro B ⟨x, y, _⟩ h1 ⟨hl1, A, hA, hB, hAl, hBl, hg⟩ K hK
    simp only at hA hB ⊢
    have lA := hA.len
    have lB := hB.len
    have step : B ≠ 0 → callP (F.integer_divide x y) (fun r17 h13 => K (y, r17.2, ()) h13) h1 := fun hB0 => by
      refine divide_call hA hB hB0 (by omega) (by omega) fun q r h2 hl2 hq hr => ?_
      have := Nat.mod_lt A (Nat.pos_of_ne_zero hB0)
      exact hK _ _ (A % B) this ⟨Hp.le_trans hl1 hl2, B, hB.le hl2, hr, hBl, by have := dg_mono (Nat.le_of_lt this); omega, by rw [gcd_step]; exact hg⟩
    have hB0 : 0 < y.len → B ≠ 0 := fun h0 hh => by rw [lB, hh, dg_zero] at h0; exact absurd h0 (by decide)
    refine joinP_of ?_
    refine ifP_dec (fun h2 => step (hB0 (by omega))) (fun h2 => ifP_dec (fun h3 => ifP_dec (fun h4 => step (hB0 (by omega))) (fun h4 => ?_)) (fun h3 => ?_))
    · exact ⟨hl1, A, B, hA, hB, hAl, hg, by omega, fun h5 => absurd (dg_nil.1 (List.length_eq_zero_iff.1 (by omega))) h5⟩
    · exact ⟨hl1, A, B, hA, hB, hAl, hg, by omega, fun _ => by omega⟩
theorem GCD_call (ha : NI h a m) (hb : NI h b n) (om : Ok m) (on : Ok n) (H : ∀ z h', h.le h' → NI h' z (Nat.gcd m.natAbs n.natAbs : Nat) → KI z h') : callP (F.integer_GCD a b) KI h :=
  GCD_callX ha hb (Nat.le_trans om (by decide)) (Nat.le_trans on (by decide)) H
theorem rGCD_callX (ha : NI h a m) (hb : NI h b n) (om : (dg m.natAbs).length ≤ 35184372087808) (on : (dg n.natAbs).length ≤ 35184372087808) (H : ∀ z h', h.le h' → NI h' z (Nat.gcd m.natAbs n.natAbs : Nat) → KI z h') : callP (F.ref01_GCD a b) KI h := by
  refine callP_of _ (fun K' hk => ?_) H
  unfold F.ref01_GCD
  refine rtrimN_callX ha om fun x hx => rtrimN_callX hb on fun y hy => ?_
  have om' := om
  have on' := on
  refine loopP_wf (fun N st h' => h.le h' ∧ ∃ A : Nat, RdW h' st.1 (dg A) ∧ RdW h' st.2.1 (dg N) ∧ (dg A).length ≤ 35184372087808 ∧ (dg N).length ≤ 35184372087808 ∧ Nat.gcd A N = Nat.gcd m.natAbs n.natAbs) n.natAbs
      ⟨Hp.le_refl _, m.natAbs, hx, hy, om', on', rfl⟩ ?_
  rintro B ⟨x, y, _⟩ h1 ⟨hl1, A, hA, hB, hAl, hBl, hg⟩ K hK
  simp only at hA hB ⊢
  have lA := hA.len
  have lB := hB.len
  refine ifP_dec (fun h2 => ?_) (fun h2 => ?_)
  · have hB0 : B ≠ 0 := fun hh => by rw [lB, hh, dg_zero] at h2; exact absurd h2 (by decide)
    refine rdivide_call hA hB hB0 (by omega) (by omega) fun q r h2 hl2 hq hr => ?_
    have := Nat.mod_lt A (Nat.pos_of_ne_zero hB0)
    exact hK _ _ (A % B) this ⟨Hp.le_trans hl1 hl2, B, hB.le hl2, hr, hBl, by have := dg_mono (Nat.le_of_lt this); omega, by rw [gcd_step]; exact hg⟩
  · have hB0 : B = 0 := dg_nil.1 (List.length_eq_zero_iff.1 (by omega))
    subst hB0
    rw [Nat.gcd_zero_right] at hg
    refine rsignedN_call hA (by omega) fun w hw => hk _ _ hl1 ?_
    rw [← hg]
    exact hw
theorem rGCD_call (ha : NI h a m) (hb : NI h b n) (om : Ok m) (on : Ok n) (H : ∀ z h', h.le h' → NI h' z (Nat.gcd m.natAbs n.natAbs : Nat) → KI z h') : callP (F.ref01_GCD a b) KI h :=
  rGCD_callX ha hb (Nat.le_trans om (by decide)) (Nat.le_trans on (by decide)) H

theorem isZero_call (ha : NI h a m) (H : Kb (decide (m = 0)) h) : callP (F.rational_isZero a) Kb h := by
  refine callP_same _ (fun K' hk => ?_) H
  unfold F.rational_isZero
  rw [ha.len0]; exact hk
theorem dg_one : dg 1 = [1] := by rw [dg_pos (by decide), show 1 / W = 0 by decide, dg_zero]; rfl
theorem one_call_of (G : (Bool → Hp → Prop) → Hp → Prop) (hG : ∀ K, ((m = 1) → K true h) → ((m ≠ 1) → K false h) → G K h) (H : Kb (decide (m = 1)) h) : callP G Kb h := by
  refine callP_same (decide (m = 1)) (fun K' hk => hG K' (fun h1 => ?_) (fun h1 => ?_)) H
  · rw [decide_eq_true h1] at hk; exact hk
  · rw [decide_eq_false h1] at hk; exact hk
theorem isOne_call (ha : NI h a m) (H : Kb (decide (m = 1)) h) : callP (F.rational_isOne a) Kb h := by
  refine one_call_of _ (fun K' h1 h0 => ?_) H
  unfold F.rational_isOne
  have hl := ha.len
  rw [ha.2]
  refine ifP_intro (fun h2 => ?_) (fun h2 => ?_)
  · have hpos : ¬ m < 0 := by simpa using h2
    refine ifP_eq (fun h3 => ?_) (fun h3 => ?_)
    · have h4 := dg_len1 (B := m.natAbs) (by omega)
      refine rd_wordD 0 ha.1 rfl (by omega) fun p hp => ⟨_, hp, ?_⟩
      rw [h4]
      by_cases h5 : m = 1
      · have := h1 h5
        subst h5; exact this
      · have := h0 h5
        have e : (((([m.natAbs] : List Nat).getD 0 0 : Nat) : Int) == 1) = false := by
          simp; omega
        simp only
        rw [e]; exact this
    · refine h0 fun h5 => h3 ?_
      subst h5
      rw [hl, show (1 : Int).natAbs = 1 from rfl, dg_one]; rfl
  · exact h0 fun h5 => by subst h5; simp at h2
theorem rone_call (ha : NI h a m) (H : Kb (decide (m = 1)) h) : callP (F.ref02_one a) Kb h := by
  refine one_call_of _ (fun K' h1 h0 => ?_) H
  unfold F.ref02_one
  have hl := ha.len
  refine ifP_eq (fun h3 => ?_) (fun h3 => ?_)
  · have h4 := dg_len1 (B := m.natAbs) (by omega)
    refine rd_wordD 0 ha.1 rfl (by omega) fun p hp => ⟨_, hp, ?_⟩
    rw [h4]
    refine ifP_eq (fun h5 => ?_) (fun h5 => ?_)
    · have h6 : ((m.natAbs : Nat) : Int) = 1 := h5
      rw [ha.2]
      by_cases h7 : m < 0
      · rw [decide_eq_true h7]; exact h0 (by omega)
      · rw [decide_eq_false h7]; exact h1 (by omega)
    · have h6 : ((m.natAbs : Nat) : Int) ≠ 1 := h5
      exact h0 (by omega)
  · refine h0 fun h5 => h3 ?_
    subst h5
    rw [hl, show (1 : Int).natAbs = 1 from rfl, dg_one]; rfl

/-- q and r are the floored quotient and the rest. -/
def DM (m n q r : Int) : Prop := m = n * q + r ∧ (0 < n → 0 ≤ r ∧ r < n) ∧ (n < 0 → n < r ∧ r ≤ 0)
theorem DM.div {m n q r : Int} (h : DM m n q r) (h0 : n ≠ 0) (hd : 0 < n ∨ n ∣ m) : q = m / n := by
  obtain ⟨h1, h2, h3⟩ := h
  rcases hd with hd | hd
  · have h4 := h2 hd
    exact ((Int.ediv_emod_unique hd).2 ⟨by omega, h4.1, h4.2⟩).1.symm
  · have hr : n ∣ r := by
      have e : r = m - n * q := by omega
      rw [e]; exact Int.dvd_sub hd (Int.dvd_mul_right n q)
    have hr0 : r = 0 := by
      have h5 : n.natAbs ∣ r.natAbs := Int.natAbs_dvd_natAbs.2 hr
      have h6 : r.natAbs < n.natAbs := by
        rcases Int.lt_or_gt_of_ne h0 with h7 | h7
        · have := h3 h7; omega
        · have := h2 h7; omega
      have := Nat.eq_zero_of_dvd_of_lt h5 h6
      omega
    rw [h1, hr0, Int.add_zero, Int.mul_ediv_cancel_left _ h0]
theorem natAbs_cases (m : Int) : m = m.natAbs ∧ ¬ m < 0 ∨ m = -(m.natAbs : Int) ∧ m < 0 := by omega
theorem DM_same {m n : Int} (h0 : n ≠ 0) (h : decide (m < 0) = decide (n < 0)) : DM m n (sg false (m.natAbs / n.natAbs)) (sg (decide (n < 0)) (m.natAbs % n.natAbs)) := by
  have e := Nat.div_add_mod m.natAbs n.natAbs
  have hlt := Nat.mod_lt m.natAbs (y := n.natAbs) (by omega)
  have h' : m < 0 ↔ n < 0 := by simpa using h
  have c1 := natAbs_cases m
  have c2 := natAbs_cases n
  clear h
  generalize m.natAbs / n.natAbs = q at *
  generalize m.natAbs % n.natAbs = r at *
  generalize m.natAbs = A at *
  generalize n.natAbs = B at *
  have e' : (A : Int) = B * q + r := by rw [← e]; simp
  unfold DM sg
  rcases c1 with ⟨h1, h2⟩ | ⟨h1, h2⟩ <;> rcases c2 with ⟨h3, h4⟩ | ⟨h3, h4⟩
  · rw [decide_eq_false h4]
    simp only [Bool.false_eq_true, if_false]
    exact ⟨by rw [h1, h3, e'], fun _ => by omega, fun _ => by omega⟩
  · omega
  · omega
  · rw [decide_eq_true h4]
    simp only [Bool.false_eq_true, if_false, if_true]
    exact ⟨by rw [h1, h3, e', Int.neg_add, Int.neg_mul], fun _ => by omega, fun _ => by omega⟩
theorem DM_zero {m n : Int} (h0 : n ≠ 0) (h : decide (m < 0) ≠ decide (n < 0)) (hr : m.natAbs % n.natAbs = 0) : DM m n (sg true (m.natAbs / n.natAbs)) (sg (decide (n < 0)) (m.natAbs % n.natAbs)) := by
  have e := Nat.div_add_mod m.natAbs n.natAbs
  have h' : ¬ (m < 0 ↔ n < 0) := by simpa using h
  have c1 := natAbs_cases m
  have c2 := natAbs_cases n
  rw [hr] at e ⊢
  clear h hr
  generalize m.natAbs / n.natAbs = q at *
  generalize m.natAbs = A at *
  generalize n.natAbs = B at *
  have e' : (A : Int) = B * q := by rw [← e]; simp
  unfold DM sg
  rcases c1 with ⟨h1, h2⟩ | ⟨h1, h2⟩ <;> rcases c2 with ⟨h3, h4⟩ | ⟨h3, h4⟩
  · omega
  · rw [decide_eq_true h4]
    simp only [if_true]
    exact ⟨by rw [h1, h3, e', Int.neg_mul_neg]; simp, fun _ => by omega, fun _ => by omega⟩
  · rw [decide_eq_false h4]
    simp only [Bool.false_eq_true, if_false, if_true]
    exact ⟨by rw [h1, h3, e', Int.mul_neg]; simp, fun _ => by omega, fun _ => by omega⟩
  · omega
theorem DM_diff {m n : Int} (h0 : n ≠ 0) (h : decide (m < 0) ≠ decide (n < 0)) (hr : m.natAbs % n.natAbs ≠ 0) : DM m n (sg true (m.natAbs / n.natAbs + 1)) (sg (decide (n < 0)) (n.natAbs - m.natAbs % n.natAbs)) := by
  have e := Nat.div_add_mod m.natAbs n.natAbs
  have hlt := Nat.mod_lt m.natAbs (y := n.natAbs) (by omega)
  have h' : ¬ (m < 0 ↔ n < 0) := by simpa using h
  have c1 := natAbs_cases m
  have c2 := natAbs_cases n
  clear h
  generalize m.natAbs / n.natAbs = q at *
  generalize m.natAbs % n.natAbs = r at *
  generalize m.natAbs = A at *
  generalize n.natAbs = B at *
  have e' : (A : Int) = B * q + r := by rw [← e]; simp
  have e2 : ((B - r : Nat) : Int) = (B : Int) - r := by omega
  have e3 : (B : Int) * ((q + 1 : Nat) : Int) = B * q + B := by
    rw [Int.natCast_add, Int.mul_add]; simp
  unfold DM sg
  rw [e2]
  rcases c1 with ⟨h1, h2⟩ | ⟨h1, h2⟩ <;> rcases c2 with ⟨h3, h4⟩ | ⟨h3, h4⟩
  · omega
  · rw [decide_eq_true h4]
    simp only [if_true]
    refine ⟨?_, fun _ => by omega, fun _ => by omega⟩
    rw [h1, h3, e', Int.neg_mul_neg, e3]; omega
  · rw [decide_eq_false h4]
    simp only [Bool.false_eq_true, if_false, if_true]
    refine ⟨?_, fun _ => by omega, fun _ => by omega⟩
    rw [h1, h3, e', Int.mul_neg, e3]; omega
  · omega

theorem nb_false {p q : Bool} (h : p = q) : (!(p == q)) = false := by subst h; simp
theorem nb_true {p q : Bool} (h : p ≠ q) : (!(p == q)) = true := by simpa using h

theorem DivMod_call (ha : NI h a m) (hb : NI h b n) (om : Ok m) (on : Ok n) (h0 : n ≠ 0)
    (H : ∀ z w h' q r, h.le h' → NI h' z q → NI h' w r → DM m n q r → KP (z, w, 0) h') : callP (F.integer_DivMod a b) KP h := by
  refine callP_of (fun v h' => ∃ q r, NI h' v.1 q ∧ NI h' v.2.1 r ∧ DM m n q r ∧ v.2.2 = 0) (fun K' hk => ?_) fun ⟨z, w, c⟩ h' hl ⟨q, r, h1, h2, h3, h4⟩ => by
    simp only at h4; subst h4
    exact H z w h' q r hl h1 h2 h3
  unfold F.integer_DivMod
  have om' : (dg m.natAbs).length ≤ 8796093022208 := om
  have on' : (dg n.natAbs).length ≤ 8796093022208 := on
  refine trimN_call hb on fun y hy => ?_
  have ly := hy.len
  refine ifP_eq (fun h1 => absurd (len_zero.1 (by omega)) h0) (fun h1 => ?_)
  refine trimN_call ha om fun x hx => ?_
  refine divide_call hx hy (by omega) (by omega) (by omega) fun q r h2 hl2 hq hr => ?_
  have hql : (dg (m.natAbs / n.natAbs)).length ≤ 8796093022208 := Nat.le_trans (dg_mono (Nat.div_le_self _ _)) om'
  have hrl : (dg (m.natAbs % n.natAbs)).length ≤ 8796093022208 := Nat.le_trans (dg_mono (Nat.mod_le _ _)) om'
  have lr := hr.len
  rw [ha.2, hb.2]
  refine joinP_inv (fun st h' => h.le h' ∧ ∃ q r : List Nat, okW q ∧ okW r ∧ RdW h' st.1 q ∧ RdW h' st.2.1 r ∧ q.length ≤ 35184372088800 ∧ r.length ≤ 35184372088800 ∧ DM m n (sg (!(decide (m < 0) == decide (n < 0))) (vl q)) (sg (decide (n < 0)) (vl r))) ?_ ?_
  · rintro ⟨x, y, _⟩ h3 ⟨hl3, q, r, okq, okr, hx3, hy3, hq3, hr3, hdm⟩
    refine signed_call hx3 okq (by omega) fun z hz => signed_call hy3 okr (by omega) fun w hw => hk _ _ hl3 ⟨_, _, hz, hw, hdm, rfl⟩
  · have stay : DM m n (sg (!(decide (m < 0) == decide (n < 0))) (m.natAbs / n.natAbs)) (sg (decide (n < 0)) (m.natAbs % n.natAbs)) →
        h.le h2 ∧ ∃ q' r' : List Nat, okW q' ∧ okW r' ∧ RdW h2 q q' ∧ RdW h2 r r' ∧ q'.length ≤ 35184372088800 ∧ r'.length ≤ 35184372088800 ∧ DM m n (sg (!(decide (m < 0) == decide (n < 0))) (vl q')) (sg (decide (n < 0)) (vl r')) := fun hd =>
      ⟨hl2, dg _, dg _, ok_dg _, ok_dg _, hq, hr, by omega, by omega, by rw [vl_dg, vl_dg]; exact hd⟩
    refine ifP_intro (fun h3 => ?_) (fun h3 => ?_)
    · have hd : decide (m < 0) ≠ decide (n < 0) := by simpa using h3
      refine ifP_dec (fun h4 => ?_) (fun h4 => ?_)
      · have hr0 : m.natAbs % n.natAbs ≠ 0 := fun hh => by rw [lr, hh, dg_zero] at h4; exact absurd h4 (by decide)
        have hlt := Nat.mod_lt m.natAbs (y := n.natAbs) (by omega)
        refine new_own (n := 1) (size := 1) rfl fun b1 h5 hb1 ho => ?_
        have ho' : OwnW h2 h5 ⟨some ⟨b1, 0, none⟩, 1, 1⟩ [1] := ho
        refine plus_call (hq.le ho.1) ho'.rdW (ok_dg _) (fun d hd => by rw [List.mem_singleton.1 hd]; decide) (by omega) (by simp) fun z h6 rr hl6 hz okz hv hzl => ?_
        rw [vl_dg] at hv
        have hl26 := Hp.le_trans ho.1 hl6
        refine minus_call (hy.le (Hp.le_trans hl2 hl26)) (hr.le hl26) (ok_dg _) (ok_dg _) (by omega) (dg_mono (Nat.le_of_lt hlt)) (by rw [vl_dg, vl_dg]; exact Nat.le_of_lt hlt) fun w h7 hl7 hw => ?_
        rw [vl_dg, vl_dg] at hw
        refine ⟨Hp.le_trans hl2 (Hp.le_trans hl26 hl7), rr, _, okz, ok_dg _, hz.le hl7, hw, by simp at hzl; omega, by have := sub_dg (n := m.natAbs % n.natAbs) on'; omega, ?_⟩
        rw [vl_dg, hv, nb_true hd]
        have := DM_diff h0 hd hr0
        simpa [vl] using this
      · have hr0 : m.natAbs % n.natAbs = 0 := dg_nil.1 (List.length_eq_zero_iff.1 (by have h5 : ¬ (r.len : Int) > 0 := h4; omega))
        exact stay (by rw [nb_true hd]; exact DM_zero h0 hd hr0)
    · have hd : decide (m < 0) = decide (n < 0) := by simpa using h3
      exact stay (by rw [nb_false hd]; exact DM_same h0 hd)
end
end Den
end

section
set_option linter.unusedVariables false
namespace Den
open Go Iv
section
variable {h : Hp} {x y : Sl} {l : List Nat} {m n : Int} {a b : TInt} {Ks : Sl → Hp → Prop} {Ki : Int → Hp → Prop} {Kb : Bool → Hp → Prop} {KI : TInt → Hp → Prop} {KP : (TInt × TInt × Int) → Hp → Prop}

/-- The quotient towards zero. -/
def tq (m n : Int) : Int := sg (!(decide (m < 0) == decide (n < 0))) (m.natAbs / n.natAbs)
theorem tq_rest {m n : Int} (h0 : n ≠ 0) : m - tq m n * n = sg (decide (m < 0)) (m.natAbs % n.natAbs) := by
  have e := Nat.div_add_mod m.natAbs n.natAbs
  have c1 := natAbs_cases m
  have c2 := natAbs_cases n
  unfold tq
  generalize m.natAbs / n.natAbs = q at *
  generalize m.natAbs % n.natAbs = r at *
  generalize m.natAbs = A at *
  generalize n.natAbs = B at *
  have e' : (A : Int) = B * q + r := by rw [← e]; simp
  unfold sg
  rcases c1 with ⟨h1, h2⟩ | ⟨h1, h2⟩ <;> rcases c2 with ⟨h3, h4⟩ | ⟨h3, h4⟩
  · rw [decide_eq_false h2, decide_eq_false h4]
    simp only [BEq.rfl, Bool.not_true, Bool.false_eq_true, if_false]
    rw [h1, h3, e', Int.mul_comm]; omega
  · rw [decide_eq_false h2, decide_eq_true h4]
    simp only [Bool.false_eq_true, if_false]
    rw [if_pos (by decide), h1, h3, e', Int.neg_mul_neg, Int.mul_comm]; omega
  · rw [decide_eq_true h2, decide_eq_false h4]
    simp only [if_true]
    rw [if_pos (by decide), h1, h3, e', Int.neg_mul, Int.mul_comm]; omega
  · rw [decide_eq_true h2, decide_eq_true h4]
    simp only [BEq.rfl, Bool.not_true, Bool.false_eq_true, if_false, if_true]
    rw [h1, h3, e', Int.mul_neg, Int.mul_comm]; omega
theorem tq_DM {m n : Int} (h0 : n ≠ 0) (h : ¬ (m - tq m n * n).sign * n.sign < 0) : DM m n (tq m n) (m - tq m n * n) := by
  have hr := tq_rest (m := m) h0
  have hlt := Nat.mod_lt m.natAbs (y := n.natAbs) (by omega)
  have hb : (m - tq m n * n).natAbs < n.natAbs := by rw [hr, sg_abs]; exact hlt
  have s1 := sign_range (m - tq m n * n)
  have s2 := sign_range n
  refine ⟨by rw [Int.mul_comm n]; omega, fun h1 => ?_, fun h1 => ?_⟩
  · generalize m - tq m n * n = r at *
    rcases s1 with ⟨e1, s1⟩ | ⟨e1, s1⟩ | ⟨e1, s1⟩ <;> rcases s2 with ⟨e2, s2⟩ | ⟨e2, s2⟩ | ⟨e2, s2⟩ <;> (rw [e1, e2] at h) <;> omega
  · generalize m - tq m n * n = r at *
    rcases s1 with ⟨e1, s1⟩ | ⟨e1, s1⟩ | ⟨e1, s1⟩ <;> rcases s2 with ⟨e2, s2⟩ | ⟨e2, s2⟩ | ⟨e2, s2⟩ <;> (rw [e1, e2] at h) <;> omega
theorem tq_DM' {m n : Int} (h0 : n ≠ 0) (h : (m - tq m n * n).sign * n.sign < 0) : DM m n (tq m n - 1) (m - tq m n * n + n) := by
  have hr := tq_rest (m := m) h0
  have hlt := Nat.mod_lt m.natAbs (y := n.natAbs) (by omega)
  have hb : (m - tq m n * n).natAbs < n.natAbs := by rw [hr, sg_abs]; exact hlt
  have s1 := sign_range (m - tq m n * n)
  have s2 := sign_range n
  refine ⟨by rw [Int.mul_sub, Int.mul_comm n (tq m n)]; omega, fun h1 => ?_, fun h1 => ?_⟩
  · generalize m - tq m n * n = r at *
    rcases s1 with ⟨e1, s1⟩ | ⟨e1, s1⟩ | ⟨e1, s1⟩ <;> rcases s2 with ⟨e2, s2⟩ | ⟨e2, s2⟩ | ⟨e2, s2⟩ <;> (rw [e1, e2] at h) <;> omega
  · generalize m - tq m n * n = r at *
    rcases s1 with ⟨e1, s1⟩ | ⟨e1, s1⟩ | ⟨e1, s1⟩ <;> rcases s2 with ⟨e2, s2⟩ | ⟨e2, s2⟩ | ⟨e2, s2⟩ <;> (rw [e1, e2] at h) <;> omega
theorem Ok.le {m n : Int} (hm : Ok m) (h : n.natAbs ≤ m.natAbs) : Ok n := Nat.le_trans (dg_mono h) hm
theorem Ok_one : Ok 1 := by unfold Ok; rw [show (1 : Int).natAbs = 1 from rfl, dg_one]; decide
theorem tq_abs (m n : Int) : (tq m n).natAbs ≤ m.natAbs := by unfold tq; rw [sg_abs]; exact Nat.div_le_self _ _
theorem tqm_abs (m n : Int) : (tq m n * n).natAbs ≤ m.natAbs := by
  rw [Int.natAbs_mul]; unfold tq; rw [sg_abs]; exact Nat.div_mul_le_self _ _

theorem rDivMod_call (ha : NI h a m) (hb : NI h b n) (om : Ok m) (on : Ok n) (h0 : n ≠ 0)
    (H : ∀ z w h' q r, h.le h' → NI h' z q → NI h' w r → DM m n q r → KP (z, w, 0) h') : callP (F.ref01_DivMod a b) KP h := by
  refine callP_of (fun v h' => ∃ q r, NI h' v.1 q ∧ NI h' v.2.1 r ∧ DM m n q r ∧ v.2.2 = 0) (fun K' hk => ?_) fun ⟨z, w, c⟩ h' hl ⟨q, r, h1, h2, h3, h4⟩ => by
    simp only at h4; subst h4
    exact H z w h' q r hl h1 h2 h3
  unfold F.ref01_DivMod
  have om' : (dg m.natAbs).length ≤ 8796093022208 := om
  have on' : (dg n.natAbs).length ≤ 8796093022208 := on
  refine rNorm_call ha om fun x hx => rNorm_call hb on fun y hy => ?_
  refine ifP_intro (fun h1 => ?_) (fun _ => ?_)
  · rw [hy.len0] at h1; exact absurd (of_decide_eq_true h1) h0
  refine rdivide_call hx.1 hy.1 (by omega) (by omega) (by omega) fun q r h2 hl2 hq hr => ?_
  have hql : (dg (m.natAbs / n.natAbs)).length ≤ 8796093022208 := Nat.le_trans (dg_mono (Nat.div_le_self _ _)) om'
  rw [hx.2, hy.2]
  refine rsignedN_call hq (by omega) fun z hz => ?_
  have hz' : NI h2 z (tq m n) := hz
  have oq : Ok (tq m n) := om.le (tq_abs m n)
  refine rMul_call hz' (hy.le hl2) oq on fun w h3 hl3 hw => ?_
  have hl23 := Hp.le_trans hl2 hl3
  refine rSub_call (hx.le hl23) hw om (om.le (tqm_abs m n)) fun v h4 hl4 hv => ?_
  have hl24 := Hp.le_trans hl23 hl4
  have hb : (m - tq m n * n).natAbs < n.natAbs := by rw [tq_rest h0, sg_abs]; exact Nat.mod_lt _ (by omega)
  have or' : Ok (m - tq m n * n) := on.le (Nat.le_of_lt hb)
  refine joinP_inv (fun st h' => h.le h' ∧ ∃ q r, NI h' ⟨st.1.1, st.1.2.1⟩ q ∧ NI h' ⟨st.2.1.1, st.2.1.2.1⟩ r ∧ DM m n q r) ?_ ?_
  · rintro st h5 ⟨hl5, q, r, hq5, hr5, hdm⟩
    exact hk _ _ hl5 ⟨q, r, hq5, hr5, hdm, rfl⟩
  · refine rSign_call hv or' (rSign_call (hy.le hl24) on ?_)
    have s1 := sign_range (m - tq m n * n)
    have s2 := sign_range n
    have es : IntKind.i64.wrap ((m - tq m n * n).sign * n.sign) = (m - tq m n * n).sign * n.sign := by
      rcases s1 with ⟨e1, s1⟩ | ⟨e1, s1⟩ | ⟨e1, s1⟩ <;> rcases s2 with ⟨e2, s2⟩ | ⟨e2, s2⟩ | ⟨e2, s2⟩ <;> rw [e1, e2] <;> rfl
    rw [es]
    refine ifP_dec (fun h5 => ?_) (fun h5 => ?_)
    · refine rFromInt_call (by decide) (by decide) fun o h6 hl6 ho => ?_
      have hq6 : NI h6 z (tq m n) := ((hz'.le hl3).le hl4).le hl6
      refine rSub_call hq6 ho oq Ok_one fun u h7 hl7 hu => ?_
      have hl47 := Hp.le_trans hl6 hl7
      refine rAdd_call (hv.le hl47) (hy.le (Hp.le_trans hl24 hl47)) or' on fun t h8 hl8 ht => ?_
      exact ⟨Hp.le_trans hl24 (Hp.le_trans hl47 hl8), _, _, hu.le hl8, ht, tq_DM' h0 h5⟩
    · exact ⟨hl24, _, _, (hz'.le hl3).le hl4, hv, tq_DM h0 h5⟩

theorem quo_call (ha : NI h a m) (hb : NI h b n) (om : Ok m) (on : Ok n) (h0 : n ≠ 0) (hd : 0 < n ∨ n ∣ m) (H : ∀ z h', h.le h' → NI h' z (m / n) → KI z h') : callP (F.rational_quo a b) KI h := by
  refine callP_of _ (fun K' hk => ?_) H
  unfold F.rational_quo
  refine isOne_call hb ?_
  refine ifP_dec (fun h1 => ?_) (fun h1 => ?_)
  · subst h1
    exact hk _ _ (Hp.le_refl _) (by rw [Int.ediv_one]; exact ha)
  · refine DivMod_call ha hb om on h0 fun z w h' q r hl hz hw hdm => hk _ _ hl ?_
    have := hdm.div h0 hd
    subst this
    exact hz
theorem rquo_call (ha : NI h a m) (hb : NI h b n) (om : Ok m) (on : Ok n) (h0 : n ≠ 0) (hd : 0 < n ∨ n ∣ m) (H : ∀ z h', h.le h' → NI h' z (m / n) → KI z h') : callP (F.ref02_quo a b) KI h := by
  refine callP_of _ (fun K' hk => ?_) H
  unfold F.ref02_quo
  refine rDivMod_call ha hb om on h0 fun z w h' q r hl hz hw hdm => hk _ _ hl ?_
  have := hdm.div h0 hd
  subst this
  exact hz
end
end Den
end

section
set_option linter.unusedVariables false
namespace Iv
theorem den_ne (q : Rat) : ((q.den : Nat) : Int) ≠ 0 := by have := q.den_pos; omega
theorem rat_cross {n d : Int} {q : Rat} (hd : d ≠ 0) : Rat.divInt n d = q ↔ n * q.den = q.num * d := by
  have h := Rat.divInt_eq_divInt_iff (n₁ := n) (n₂ := q.num) hd (den_ne q)
  rw [Rat.num_divInt_den] at h
  exact h
theorem rat_eq {n d : Int} {q : Rat} (hd : 0 < d) (hc : Nat.Coprime n.natAbs d.natAbs) (h : n * q.den = q.num * d) : n = q.num ∧ d = q.den := by
  have hq : (⟨n, d.toNat, by omega, by rw [show d.toNat = d.natAbs by omega]; exact hc⟩ : Rat) = q := by
    have h1 : Rat.divInt n d = q := (rat_cross (by omega)).2 h
    rw [← h1]
    symm
    refine (rat_cross (by omega)).2 ?_
    show n * ((d.toNat : Nat) : Int) = n * d
    rw [Int.toNat_of_nonneg (by omega)]
  refine ⟨congrArg Rat.num hq, ?_⟩
  have := congrArg Rat.den hq
  show d = ((q.den : Nat) : Int)
  have h2 : d.toNat = q.den := this
  omega
/-- In lowest terms. -/
theorem low_eq {m n g : Int} (hn : n ≠ 0) (hg : g = n.sign * (Nat.gcd m.natAbs n.natAbs : Nat)) : g ≠ 0 ∧ g ∣ m ∧ g ∣ n ∧ m / g = (Rat.divInt m n).num ∧ n / g = (Rat.divInt m n).den := by
  have hG : Nat.gcd m.natAbs n.natAbs ≠ 0 := fun h => by have := (Nat.gcd_eq_zero_iff.1 h).2; omega
  have hgabs : g.natAbs = Nat.gcd m.natAbs n.natAbs := by
    rw [hg, Int.natAbs_mul, Int.natAbs_sign_of_ne_zero hn, Nat.one_mul]; rfl
  have hg0 : g ≠ 0 := fun h => by rw [h] at hgabs; exact hG hgabs.symm
  have hgm : g ∣ m := Int.natAbs_dvd_natAbs.1 (by rw [hgabs]; exact Nat.gcd_dvd_left _ _)
  have hgn : g ∣ n := Int.natAbs_dvd_natAbs.1 (by rw [hgabs]; exact Nat.gcd_dvd_right _ _)
  obtain ⟨m', hm'⟩ := id hgm
  obtain ⟨n', hn'⟩ := id hgn
  have e1 : m / g = m' := by rw [hm']; exact Int.mul_ediv_cancel_left _ hg0
  have e2 : n / g = n' := by rw [hn']; exact Int.mul_ediv_cancel_left _ hg0
  have hGp : 0 < ((Nat.gcd m.natAbs n.natAbs : Nat) : Int) := by omega
  have hpos : 0 < n' := by
    generalize ((Nat.gcd m.natAbs n.natAbs : Nat) : Int) = G at *
    clear hgabs hgm hgn e1 e2 hm' hG
    rcases Int.lt_or_gt_of_ne hn with h | h
    · have hgneg : g < 0 := by
        rw [hg, Int.sign_eq_neg_one_of_neg h]; omega
      rcases Int.lt_trichotomy n' 0 with h1 | h1 | h1
      · have := Int.mul_pos_of_neg_of_neg hgneg h1; omega
      · rw [h1] at hn'; omega
      · exact h1
    · have hgpos : 0 < g := by
        rw [hg, Int.sign_eq_one_of_pos h]; omega
      rcases Int.lt_trichotomy n' 0 with h1 | h1 | h1
      · have := Int.mul_neg_of_pos_of_neg hgpos h1; omega
      · rw [h1] at hn'; omega
      · exact h1
  have hcop : Nat.Coprime m'.natAbs n'.natAbs := by
    have h1 : m.natAbs = g.natAbs * m'.natAbs := (congrArg Int.natAbs hm').trans (Int.natAbs_mul _ _)
    have h2 : n.natAbs = g.natAbs * n'.natAbs := (congrArg Int.natAbs hn').trans (Int.natAbs_mul _ _)
    rw [h1, h2, Nat.gcd_mul_left] at hgabs
    have h3 : g.natAbs * 1 = g.natAbs * Nat.gcd m'.natAbs n'.natAbs := by rw [Nat.mul_one]; exact hgabs
    exact (Nat.eq_of_mul_eq_mul_left (by omega) h3).symm
  have hx : m' * (Rat.divInt m n).den = (Rat.divInt m n).num * n' := by
    have h1 := (rat_cross (q := Rat.divInt m n) hn).1 rfl
    generalize (Rat.divInt m n).den = D at *
    generalize (Rat.divInt m n).num = N at *
    rw [hm', hn'] at h1
    refine Int.eq_of_mul_eq_mul_left hg0 ?_
    rw [← Int.mul_assoc, h1, Int.mul_comm g n', ← Int.mul_assoc, Int.mul_comm]
  have := rat_eq hpos hcop hx
  exact ⟨hg0, hgm, hgn, by rw [e1]; exact this.1, by rw [e2]; exact this.2⟩

theorem radd (a b : Rat) : a + b = Rat.divInt (a.num * b.den + b.num * a.den) (a.den * b.den) := by
  have := Rat.divInt_add_divInt a.num b.num (den_ne a) (den_ne b)
  rw [Rat.num_divInt_den, Rat.num_divInt_den] at this
  exact this
theorem rmul (a b : Rat) : a * b = Rat.divInt (a.num * b.num) (a.den * b.den) := by
  have := Rat.divInt_mul_divInt a.num b.num (d₁ := a.den) (d₂ := b.den)
  rw [Rat.num_divInt_den, Rat.num_divInt_den] at this
  exact this
theorem rdiv (a b : Rat) : a / b = Rat.divInt (a.num * b.den) (a.den * b.num) := by
  rw [Rat.div_def, Rat.inv_def]
  have := Rat.divInt_mul_divInt a.num b.den (d₁ := a.den) (d₂ := b.num)
  rw [Rat.num_divInt_den] at this
  exact this
/-- The sign of a difference. -/
def cmpQ (a b : Rat) : Int := (a.num * b.den - b.num * a.den).sign
theorem cmpQ_le {a b : Rat} : cmpQ a b ≤ 0 ↔ a ≤ b := by
  unfold cmpQ
  rw [Rat.le_iff]
  have := Den.sign_range (a.num * b.den - b.num * a.den)
  omega
theorem cmpQ_lt {a b : Rat} : cmpQ a b < 0 ↔ a < b := by
  unfold cmpQ
  rw [Rat.lt_iff]
  have := Den.sign_range (a.num * b.den - b.num * a.den)
  omega
theorem cmpQ_gt {a b : Rat} : cmpQ a b > 0 ↔ b < a := by
  unfold cmpQ
  rw [Rat.lt_iff]
  have := Den.sign_range (a.num * b.den - b.num * a.den)
  omega
theorem num_lt {q : Rat} : q.num < 0 ↔ q < 0 := by
  have := Rat.num_nonneg (q := q)
  rw [← Rat.not_le, ← this]; omega
end Iv
namespace Den
open Go Iv

/-- x is the rational number q in lowest terms. -/
def NR (h : Hp) (x : TRat) (q : Rat) : Prop := NI h x.num q.num ∧ NI h x.den q.den
theorem NR.le {h h' : Hp} {x : TRat} {q : Rat} (hx : NR h x q) (hl : h.le h') : NR h' x q := ⟨hx.1.le hl, hx.2.le hl⟩
/-- The size of a rational number. -/
def BR (k : Nat) (q : Rat) : Prop := Lt k q.num ∧ Lt k q.den
theorem BR.mono {k j : Nat} {q : Rat} (h : BR k q) (hk : k ≤ j) : BR j q := ⟨h.1.mono hk, h.2.mono hk⟩
theorem Lt.addm {k : Nat} {m n : Int} (h : Lt k m) (h2 : Lt k n) : Lt (k + 1) (m + n) := by
  unfold Lt at *
  have h3 := Int.natAbs_add_le m n
  rw [Nat.pow_succ]
  have : W ^ k * 2 ≤ W ^ k * W := Nat.mul_le_mul_left _ (by decide)
  omega
theorem BR.divInt {k : Nat} {m n : Int} (hm : Lt k m) (hn : Lt k n) (h0 : n ≠ 0) : BR k (Rat.divInt m n) := by
  obtain ⟨_, _, _, h1, h2⟩ := low_eq (m := m) (n := n) h0 rfl
  exact ⟨by rw [← h1]; exact hm.le (Int.natAbs_ediv_le_natAbs _ _), by rw [← h2]; exact hn.le (Int.natAbs_ediv_le_natAbs _ _)⟩
theorem BR.mul {k j : Nat} {a b : Rat} (ha : BR k a) (hb : BR j b) : BR (k + j) (a * b) := by
  rw [rmul]
  exact BR.divInt (ha.1.mul hb.1) (ha.2.mul hb.2) (Int.mul_ne_zero (den_ne a) (den_ne b))
theorem BR.add {k j : Nat} {a b : Rat} (ha : BR k a) (hb : BR j b) : BR (k + j + 1) (a + b) := by
  rw [radd]
  exact BR.divInt ((ha.1.mul hb.2).addm ((hb.1.mul ha.2).mono (by omega))) ((ha.2.mul hb.2).mono (by omega)) (Int.mul_ne_zero (den_ne a) (den_ne b))
theorem BR.neg {k : Nat} {a : Rat} (ha : BR k a) : BR k (-a) := ⟨by rw [Rat.neg_num]; exact ha.1.neg, by rw [Rat.neg_den]; exact ha.2⟩
theorem BR.sub {k j : Nat} {a b : Rat} (ha : BR k a) (hb : BR j b) : BR (k + j + 1) (a - b) := by rw [Rat.sub_eq_add_neg]; exact ha.add hb.neg
theorem BR.div {k j : Nat} {a b : Rat} (ha : BR k a) (hb : BR j b) (h0 : b.num ≠ 0) : BR (k + j) (a / b) := by
  rw [rdiv]
  exact BR.divInt (ha.1.mul hb.2) (ha.2.mul hb.1) (Int.mul_ne_zero (den_ne a) h0)
section
variable {h : Hp} {m n : Int} {a b : TInt} {x y : TRat} {p q : Rat} {j k : Nat} {Ki : Int → Hp → Prop} {Kb : Bool → Hp → Prop} {KI : TInt → Hp → Prop} {KR : TRat → Hp → Prop} {KE : (TRat × Int) → Hp → Prop}

theorem one_call (H : ∀ z h', h.le h' → NI h' z 1 → KI z h') : callP F.rational_one KI h :=
  callP_of _ (fun K' hk => by unfold F.rational_one; exact FromInt_call (by decide) (by decide) fun z h' hl hz => hk _ _ hl hz) H
theorem qFromInt_call (h1 : -9223372036854775808 ≤ n) (h2 : n ≤ 9223372036854775807) (H : ∀ z h', h.le h' → NR h' z (n : Rat) → KR z h') : callP (F.rational_FromInt n) KR h := by
  refine callP_of _ (fun K' hk => ?_) H
  unfold F.rational_FromInt
  refine FromInt_call h1 h2 fun z h3 hl3 hz => one_call fun w h4 hl4 hw => hk _ _ (Hp.le_trans hl3 hl4) ⟨?_, ?_⟩
  · exact hz.le hl4
  · exact hw
theorem qSign_call (hx : NR h x p) (op : BR k p) (hk : k ≤ 1000000000000) (H : Ki p.num.sign h) : callP (F.rational_Sign x) Ki h :=
  callP_same _ (fun K' hk => by unfold F.rational_Sign; exact Sign_call hx.1 (op.1.ok (by omega)) hk) H
theorem qCmp_call (hx : NR h x p) (hy : NR h y q) (op : BR k p) (oq : BR j q) (hk : k ≤ 1000000000000) (hj : j ≤ 1000000000000) (H : ∀ h', h.le h' → Ki (cmpQ p q) h') : callP (F.rational_Cmp x y) Ki h := by
  refine callP_of (fun v _ => v = cmpQ p q) (fun K' hk => ?_) fun v h' hl hv => by subst hv; exact H h' hl
  unfold F.rational_Cmp
  refine qSign_call hx op (by omega) (qSign_call hy oq (by omega) ?_)
  have s1 := sign_range p.num
  have s2 := sign_range q.num
  have d1 : 0 < (p.den : Int) := by have := p.den_pos; omega
  have d2 : 0 < (q.den : Int) := by have := q.den_pos; omega
  refine ifP_ne (fun h1 => ?_) (fun h1 => ?_)
  · have key : ∀ s : Int, (s = 1 ∧ q.num.sign < p.num.sign ∨ s = -1 ∧ p.num.sign < q.num.sign) → s = cmpQ p q := fun s hs => by
      unfold cmpQ
      have e1 : 0 < p.num → 0 < p.num * q.den := fun h => Int.mul_pos h d2
      have e2 : p.num < 0 → p.num * q.den < 0 := fun h => Int.mul_neg_of_neg_of_pos h d2
      have e3 : 0 < q.num → 0 < q.num * p.den := fun h => Int.mul_pos h d1
      have e4 : q.num < 0 → q.num * p.den < 0 := fun h => Int.mul_neg_of_neg_of_pos h d1
      have e5 : p.num = 0 → p.num * q.den = 0 := fun h => by rw [h, Int.zero_mul]
      have e6 : q.num = 0 → q.num * p.den = 0 := fun h => by rw [h, Int.zero_mul]
      have s3 := sign_range (p.num * q.den - q.num * p.den)
      omega
    refine ifP_dec (fun h2 => hk _ _ (Hp.le_refl _) (key _ (.inr ⟨rfl, h2⟩))) (fun h2 => hk _ _ (Hp.le_refl _) (key _ (.inl ⟨rfl, by omega⟩)))
  · have o1 := (op.1.mul oq.2).ok (by omega)
    have o2 := (oq.1.mul op.2).ok (by omega)
    refine Mul_call hx.1 hy.2 (op.1.ok (by omega)) (oq.2.ok (by omega)) fun z h3 hl3 hz => ?_
    refine Mul_call (hy.1.le hl3) (hx.2.le hl3) (oq.1.ok (by omega)) (op.2.ok (by omega)) fun w h4 hl4 hw => ?_
    exact Cmp_call (hz.le hl4) hw o1 o2 (hk _ _ (Hp.le_trans hl3 hl4) rfl)

theorem lowest_call (ha : NI h a m) (hb : NI h b n) (om : Lt k m) (on : Lt k n) (hk : k ≤ 1000000000000) (h0 : n ≠ 0) (H : ∀ z h', h.le h' → NR h' z (Rat.divInt m n) → KR z h') : callP (F.rational_lowest a b) KR h := by
  refine callP_of _ (fun K' hk => ?_) H
  unfold F.rational_lowest
  have om' := om.ok (by omega)
  have on' := on.ok (by omega)
  refine GCD_call ha hb om' on' fun g h1 hl1 hg => ?_
  have og : Ok (Nat.gcd m.natAbs n.natAbs : Nat) := on'.le (by
    rw [Int.natAbs_natCast]
    exact Nat.le_of_dvd (by omega) (Nat.gcd_dvd_right _ _))
  obtain ⟨e0, e1, e2, e3, e4⟩ := low_eq (m := m) (n := n) h0 rfl
  have oG : Ok (n.sign * (Nat.gcd m.natAbs n.natAbs : Nat)) := og.le (by
    rw [Int.natAbs_mul, Int.natAbs_sign_of_ne_zero h0, Nat.one_mul]; exact Nat.le_refl _)
  refine joinP_inv (fun st h' => h.le h' ∧ NI h' ⟨st.1.1, st.1.2.1⟩ (n.sign * (Nat.gcd m.natAbs n.natAbs : Nat))) ?_ ?_
  · rintro st h2 ⟨hl2, hG⟩
    refine quo_call (ha.le hl2) hG om' oG e0 (.inr e1) fun u h3 hl3 hu => ?_
    refine quo_call (hb.le (Hp.le_trans hl2 hl3)) (hG.le hl3) on' oG e0 (.inr e2) fun v h4 hl4 hv => ?_
    refine hk _ _ (Hp.le_trans hl2 (Hp.le_trans hl3 hl4)) ⟨?_, ?_⟩
    · rw [← e3]; exact hu.le hl4
    · rw [← e4]; exact hv
  · rw [hb.2]
    refine ifP_dec (fun h2 => ?_) (fun h2 => ?_)
    · refine Neg_call hg og fun w h3 hl3 hw => ⟨Hp.le_trans hl1 hl3, ?_⟩
      rw [Int.sign_eq_neg_one_of_neg h2, Int.neg_mul, Int.one_mul]; exact hw
    · refine ⟨hl1, ?_⟩
      rw [Int.sign_eq_one_of_pos (by omega), Int.one_mul]; exact hg

theorem qMul_call (hx : NR h x p) (hy : NR h y q) (op : BR k p) (oq : BR j q) (hk : k ≤ 400000000000) (hj : j ≤ 400000000000) (H : ∀ z h', h.le h' → NR h' z (p * q) → KR z h') : callP (F.rational_Mul x y) KR h := by
  refine callP_of _ (fun K' hk => ?_) H
  unfold F.rational_Mul
  have hd : ((p.den : Nat) : Int) * q.den ≠ 0 := Int.mul_ne_zero (den_ne p) (den_ne q)
  refine joinP_inv (fun _ h' => h' = h) ?_ ?_
  · rintro _ h' rfl
    refine Mul_call hx.1 hy.1 (op.1.ok (by omega)) (oq.1.ok (by omega)) fun z h3 hl3 hz => ?_
    refine Mul_call (hx.2.le hl3) (hy.2.le hl3) (op.2.ok (by omega)) (oq.2.ok (by omega)) fun w h4 hl4 hw => ?_
    refine lowest_call (hz.le hl4) hw (op.1.mul oq.1) (op.2.mul oq.2) (by omega) hd fun v h5 hl5 hv => hk _ _ (Hp.le_trans hl3 (Hp.le_trans hl4 hl5)) ?_
    rw [rmul]; exact hv
  · refine isOne_call hx.2 (ifP_dec (fun h1 => isOne_call hy.2 (ifP_dec (fun h2 => ?_) (fun _ => rfl))) (fun _ => rfl))
    refine Mul_call hx.1 hy.1 (op.1.ok (by omega)) (oq.1.ok (by omega)) fun z h3 hl3 hz => ?_
    refine one_call fun w h4 hl4 hw => hk _ _ (Hp.le_trans hl3 hl4) ?_
    have e := rat_eq (n := p.num * q.num) (d := 1) (q := p * q) (by decide) (Nat.coprime_one_right _) (by
      have := (rat_cross (n := p.num * q.num) hd).1 (rmul p q).symm
      rw [h1, h2] at this; simpa using this)
    exact ⟨by rw [← e.1]; exact hz.le hl4, by rw [← e.2]; exact hw⟩
theorem qAdd_call (hx : NR h x p) (hy : NR h y q) (op : BR k p) (oq : BR j q) (hk : k ≤ 400000000000) (hj : j ≤ 400000000000) (H : ∀ z h', h.le h' → NR h' z (p + q) → KR z h') : callP (F.rational_Add x y) KR h := by
  refine callP_of _ (fun K' hk => ?_) H
  unfold F.rational_Add
  have hd : ((p.den : Nat) : Int) * q.den ≠ 0 := Int.mul_ne_zero (den_ne p) (den_ne q)
  refine joinP_inv (fun _ h' => h' = h) ?_ ?_
  · rintro _ h' rfl
    refine Mul_call hx.1 hy.2 (op.1.ok (by omega)) (oq.2.ok (by omega)) fun z h3 hl3 hz => ?_
    refine Mul_call (hy.1.le hl3) (hx.2.le hl3) (oq.1.ok (by omega)) (op.2.ok (by omega)) fun w h4 hl4 hw => ?_
    refine Add_call (hz.le hl4) hw ((op.1.mul oq.2).ok (by omega)) ((oq.1.mul op.2).ok (by omega)) fun s h5 hl5 hs => ?_
    have hl35 := Hp.le_trans hl3 (Hp.le_trans hl4 hl5)
    refine Mul_call (hx.2.le hl35) (hy.2.le hl35) (op.2.ok (by omega)) (oq.2.ok (by omega)) fun t h6 hl6 ht => ?_
    refine lowest_call (k := k + j + 1) (hs.le hl6) ht ((op.1.mul oq.2).addm ((oq.1.mul op.2).mono (by omega))) ((op.2.mul oq.2).mono (by omega)) (by omega) hd fun v h7 hl7 hv => hk _ _ (Hp.le_trans hl35 (Hp.le_trans hl6 hl7)) ?_
    rw [radd]; exact hv
  · refine isOne_call hx.2 (ifP_dec (fun h1 => isOne_call hy.2 (ifP_dec (fun h2 => ?_) (fun _ => rfl))) (fun _ => rfl))
    refine Add_call hx.1 hy.1 (op.1.ok (by omega)) (oq.1.ok (by omega)) fun z h3 hl3 hz => ?_
    refine one_call fun w h4 hl4 hw => hk _ _ (Hp.le_trans hl3 hl4) ?_
    have e := rat_eq (n := p.num + q.num) (d := 1) (q := p + q) (by decide) (Nat.coprime_one_right _) (by
      have := (rat_cross (n := p.num * q.den + q.num * p.den) hd).1 (radd p q).symm
      rw [h1, h2] at this; simpa using this)
    exact ⟨by rw [← e.1]; exact hz.le hl4, by rw [← e.2]; exact hw⟩
theorem qNeg_call (hx : NR h x p) (op : BR k p) (hk : k ≤ 1000000000000) (H : ∀ z h', h.le h' → NR h' z (-p) → KR z h') : callP (F.rational_Neg x) KR h := by
  refine callP_of _ (fun K' hk => ?_) H
  unfold F.rational_Neg
  refine Neg_call hx.1 (op.1.ok (by omega)) fun z h1 hl1 hz => hk _ _ hl1 ⟨?_, ?_⟩
  · rw [Rat.neg_num]; exact hz
  · rw [Rat.neg_den]; exact hx.2.le hl1
theorem qSub_call (hx : NR h x p) (hy : NR h y q) (op : BR k p) (oq : BR j q) (hk : k ≤ 400000000000) (hj : j ≤ 400000000000) (H : ∀ z h', h.le h' → NR h' z (p - q) → KR z h') : callP (F.rational_Sub x y) KR h := by
  refine callP_of _ (fun K' hk => ?_) H
  unfold F.rational_Sub
  refine qNeg_call hy oq (by omega) fun z h1 hl1 hz => qAdd_call (hx.le hl1) hz op oq.neg (by omega) (by omega) fun w h2 hl2 hw => hk _ _ (Hp.le_trans hl1 hl2) ?_
  rw [Rat.sub_eq_add_neg]; exact hw
theorem qDiv_call (hx : NR h x p) (hy : NR h y q) (op : BR k p) (oq : BR j q) (hk : k ≤ 400000000000) (hj : j ≤ 400000000000) (h0 : q.num ≠ 0) (H : ∀ z h', h.le h' → NR h' z (p / q) → KE (z, 0) h') : callP (F.rational_Div x y) KE h := by
  refine callP_of (fun v h' => NR h' v.1 (p / q) ∧ v.2 = 0) (fun K' hk => ?_) fun ⟨z, c⟩ h' hl ⟨hz, hc⟩ => by
    simp only at hc; subst hc; exact H z h' hl hz
  unfold F.rational_Div
  refine isZero_call hy.1 (ifP_dec (fun h1 => absurd h1 h0) (fun _ => ?_))
  refine Mul_call hx.1 hy.2 (op.1.ok (by omega)) (oq.2.ok (by omega)) fun z h3 hl3 hz => ?_
  refine Mul_call (hx.2.le hl3) (hy.1.le hl3) (op.2.ok (by omega)) (oq.1.ok (by omega)) fun w h4 hl4 hw => ?_
  refine lowest_call (hz.le hl4) hw (op.1.mul oq.2) (op.2.mul oq.1) (by omega) (Int.mul_ne_zero (den_ne p) h0) fun v h5 hl5 hv => hk _ _ (Hp.le_trans hl3 (Hp.le_trans hl4 hl5)) ⟨?_, rfl⟩
  rw [rdiv]; exact hv
end
end Den
end

section
set_option linter.unusedVariables false
namespace Iv
theorem ndvd {k : Nat} {m : Int} : (k : Int) ∣ m ↔ k ∣ m.natAbs := by rw [← Int.natAbs_dvd_natAbs, Int.natAbs_natCast]
theorem cop_dvd {x y k : Nat} (h : Nat.Coprime x y) (h1 : k ∣ x) (h2 : k ∣ y) : k = 1 := Nat.eq_one_of_dvd_one (by rw [← h]; exact Nat.dvd_gcd h1 h2)
/-- A sum is coprime to p. -/
theorem sum_cop {A B : Int} {p q : Nat} {t' : Int} (hAP : ∀ k, k ∣ A.natAbs → k ∣ p → k = 1) (hpq : Nat.Coprime p q) (ht : t' ∣ A * q + B * p) : Nat.Coprime t'.natAbs p := by
  rw [Nat.coprime_iff_gcd_eq_one]
  have g1 : Nat.gcd t'.natAbs p ∣ t'.natAbs := Nat.gcd_dvd_left _ _
  have g2 : Nat.gcd t'.natAbs p ∣ p := Nat.gcd_dvd_right _ _
  generalize Nat.gcd t'.natAbs p = x at *
  have h1 : (x : Int) ∣ A * q + B * p := Int.dvd_trans (ndvd.2 g1) ht
  have h2 : (x : Int) ∣ B * p := Int.dvd_trans (Int.natCast_dvd_natCast.2 g2) (Int.dvd_mul_left _ _)
  have h3 : (x : Int) ∣ A * q := by
    have := Int.dvd_sub h1 h2
    rwa [Int.add_sub_cancel] at this
  have h4 : x ∣ A.natAbs * q := by
    have := ndvd.1 h3
    rwa [Int.natAbs_mul, Int.natAbs_natCast] at this
  have h5 : Nat.Coprime x A.natAbs := by
    have e := hAP (Nat.gcd x A.natAbs) (Nat.gcd_dvd_right _ _) (Nat.dvd_trans (Nat.gcd_dvd_left _ _) g2)
    exact e
  exact cop_dvd hpq g2 (h5.dvd_of_dvd_mul_left h4)

theorem add_low {a b : Rat} {G E : Nat} {t : Int} (hG : G = Nat.gcd a.den b.den) (ht : t = a.num * ((b.den : Int) / G) + b.num * ((a.den : Int) / G)) (hE : E = Nat.gcd t.natAbs G) :
    0 < G ∧ G ∣ a.den ∧ G ∣ b.den ∧ 0 < E ∧ (E : Int) ∣ t ∧ E ∣ b.den ∧ t / E = (a + b).num ∧ (a.den : Int) / G * ((b.den : Int) / E) = (a + b).den := by
  have hG0 : 0 < G := by rw [hG]; exact Nat.gcd_pos_of_pos_left _ a.den_pos
  obtain ⟨p, hp⟩ : G ∣ a.den := by rw [hG]; exact Nat.gcd_dvd_left _ _
  obtain ⟨q, hq⟩ : G ∣ b.den := by rw [hG]; exact Nat.gcd_dvd_right _ _
  have hpq : Nat.Coprime p q := by
    have : G * 1 = G * Nat.gcd p q := by rw [Nat.mul_one, ← Nat.gcd_mul_left, ← hp, ← hq]; exact hG
    exact (Nat.eq_of_mul_eq_mul_left hG0 this).symm
  have hGi : (G : Int) ≠ 0 := by omega
  have e1 : (a.den : Int) / G = p := by rw [hp, Int.natCast_mul]; exact Int.mul_ediv_cancel_left _ hGi
  have e2 : (b.den : Int) / G = q := by rw [hq, Int.natCast_mul]; exact Int.mul_ediv_cancel_left _ hGi
  rw [e1, e2] at ht
  rw [e1]
  have hE0 : 0 < E := by rw [hE]; exact Nat.gcd_pos_of_pos_right _ hG0
  obtain ⟨g', hg'⟩ : E ∣ G := by rw [hE]; exact Nat.gcd_dvd_right _ _
  have hEt : (E : Int) ∣ t := ndvd.2 (by rw [hE]; exact Nat.gcd_dvd_left _ _)
  obtain ⟨t', ht'⟩ := id hEt
  have hEi : (E : Int) ≠ 0 := by omega
  have e3 : t / E = t' := by rw [ht']; exact Int.mul_ediv_cancel_left _ hEi
  have hbd : b.den = E * (g' * q) := by rw [hq, hg', Nat.mul_assoc]
  have e4 : (b.den : Int) / E = ((g' * q : Nat) : Int) := by rw [hbd, Int.natCast_mul]; exact Int.mul_ediv_cancel_left _ hEi
  have hc1 : Nat.Coprime t'.natAbs g' := by
    have h1 : t.natAbs = E * t'.natAbs := by rw [ht', Int.natAbs_mul, Int.natAbs_natCast]
    rw [h1, hg', Nat.gcd_mul_left] at hE
    have : E * 1 = E * Nat.gcd t'.natAbs g' := by rw [Nat.mul_one]; exact hE
    exact (Nat.eq_of_mul_eq_mul_left hE0 this).symm
  have htt : t' ∣ a.num * q + b.num * p := by rw [← ht, ht']; exact Int.dvd_mul_left _ _
  have hc2 : Nat.Coprime t'.natAbs p := sum_cop (fun k h1 h2 => cop_dvd a.reduced h1 (Nat.dvd_trans h2 ⟨G, by rw [hp, Nat.mul_comm]⟩)) hpq htt
  have hc3 : Nat.Coprime t'.natAbs q := sum_cop (A := b.num) (B := a.num) (fun k h1 h2 => cop_dvd b.reduced h1 (Nat.dvd_trans h2 ⟨G, by rw [hq, Nat.mul_comm]⟩)) hpq.symm (by rw [Int.add_comm]; exact htt)
  have hcop : Nat.Coprime t'.natAbs ((p : Int) * ((g' * q : Nat) : Int)).natAbs := by
    rw [← Int.natCast_mul, Int.natAbs_natCast]
    exact Nat.Coprime.mul_right hc2 (Nat.Coprime.mul_right hc1 hc3)
  have hpos : 0 < (p : Int) * ((g' * q : Nat) : Int) := by
    have h1 := a.den_pos
    have h2 := b.den_pos
    rw [hp] at h1
    rw [hbd] at h2
    have h3 : 0 < p := Nat.pos_of_mul_pos_left h1
    have h4 : 0 < g' * q := Nat.pos_of_mul_pos_left h2
    exact Int.mul_pos (by omega) (by omega)
  have hx : t' * (a + b).den = (a + b).num * ((p : Int) * ((g' * q : Nat) : Int)) := by
    have h1 := (rat_cross (n := a.num * b.den + b.num * a.den) (q := a + b) (Int.mul_ne_zero (den_ne a) (den_ne b))).1 (radd a b).symm
    generalize (a + b).den = D at *
    generalize (a + b).num = N at *
    have k1 : a.num * (b.den : Int) + b.num * (a.den : Int) = G * (E * t') := by
      rw [← ht', ht, hp, hq]
      simp only [Int.natCast_mul]
      rw [Int.mul_add, ← Int.mul_assoc, ← Int.mul_assoc, ← Int.mul_assoc, ← Int.mul_assoc, Int.mul_comm a.num, Int.mul_comm b.num]
    have k2 : (a.den : Int) * (b.den : Int) = G * (E * ((p : Int) * ((g' * q : Nat) : Int))) := by
      rw [hbd, hp]
      simp only [Int.natCast_mul]
      rw [Int.mul_assoc, Int.mul_left_comm (p : Int)]
    rw [k1, k2] at h1
    refine Int.eq_of_mul_eq_mul_left hEi (Int.eq_of_mul_eq_mul_left hGi ?_)
    rw [← Int.mul_assoc, ← Int.mul_assoc, Int.mul_assoc (G : Int), h1, Int.mul_left_comm N, Int.mul_left_comm N]
  have := rat_eq hpos hcop hx
  exact ⟨hG0, ⟨p, hp⟩, ⟨q, hq⟩, hE0, hEt, ⟨_, hbd⟩, by rw [e3]; exact this.1, by rw [e4]; exact this.2⟩
theorem add_one {a b : Rat} (hG : Nat.gcd a.den b.den = 1) : a.num * b.den + b.num * a.den = (a + b).num ∧ (a.den : Int) * b.den = (a + b).den := by
  have h := add_low (a := a) (b := b) (G := 1) (E := 1) (t := a.num * b.den + b.num * a.den) hG.symm (by simp) (by simp)
  obtain ⟨_, _, _, _, _, _, h1, h2⟩ := h
  refine ⟨by simpa using h1, by simpa using h2⟩

theorem mul_low {a b : Rat} {G1 G2 : Nat} (h1 : G1 = Nat.gcd a.num.natAbs b.den) (h2 : G2 = Nat.gcd b.num.natAbs a.den) :
    0 < G1 ∧ 0 < G2 ∧ (G1 : Int) ∣ a.num ∧ (G2 : Int) ∣ b.num ∧ G2 ∣ a.den ∧ G1 ∣ b.den ∧ a.num / G1 * (b.num / G2) = (a * b).num ∧ (a.den : Int) / G2 * ((b.den : Int) / G1) = (a * b).den := by
  have h10 : 0 < G1 := by rw [h1]; exact Nat.gcd_pos_of_pos_right _ b.den_pos
  have h20 : 0 < G2 := by rw [h2]; exact Nat.gcd_pos_of_pos_right _ a.den_pos
  have d1 : (G1 : Int) ∣ a.num := ndvd.2 (by rw [h1]; exact Nat.gcd_dvd_left _ _)
  have d2 : (G2 : Int) ∣ b.num := ndvd.2 (by rw [h2]; exact Nat.gcd_dvd_left _ _)
  have d3 : G2 ∣ a.den := by rw [h2]; exact Nat.gcd_dvd_right _ _
  have d4 : G1 ∣ b.den := by rw [h1]; exact Nat.gcd_dvd_right _ _
  refine ⟨h10, h20, d1, d2, d3, d4, ?_⟩
  obtain ⟨A, hA⟩ := d1
  obtain ⟨B, hB⟩ := d2
  obtain ⟨P, hP⟩ := d3
  obtain ⟨Q, hQ⟩ := d4
  have i1 : (G1 : Int) ≠ 0 := by omega
  have i2 : (G2 : Int) ≠ 0 := by omega
  have e1 : a.num / G1 = A := by rw [hA]; exact Int.mul_ediv_cancel_left _ i1
  have e2 : b.num / G2 = B := by rw [hB]; exact Int.mul_ediv_cancel_left _ i2
  have e3 : (a.den : Int) / G2 = P := by rw [hP, Int.natCast_mul]; exact Int.mul_ediv_cancel_left _ i2
  have e4 : (b.den : Int) / G1 = Q := by rw [hQ, Int.natCast_mul]; exact Int.mul_ediv_cancel_left _ i1
  rw [e1, e2, e3, e4]
  have n1 : a.num.natAbs = G1 * A.natAbs := by rw [hA, Int.natAbs_mul, Int.natAbs_natCast]
  have n2 : b.num.natAbs = G2 * B.natAbs := by rw [hB, Int.natAbs_mul, Int.natAbs_natCast]
  have c1 : Nat.Coprime A.natAbs Q := by
    rw [n1, hQ, Nat.gcd_mul_left] at h1
    have : G1 * 1 = G1 * Nat.gcd A.natAbs Q := by rw [Nat.mul_one]; exact h1
    exact (Nat.eq_of_mul_eq_mul_left h10 this).symm
  have c2 : Nat.Coprime B.natAbs P := by
    rw [n2, hP, Nat.gcd_mul_left] at h2
    have : G2 * 1 = G2 * Nat.gcd B.natAbs P := by rw [Nat.mul_one]; exact h2
    exact (Nat.eq_of_mul_eq_mul_left h20 this).symm
  have c3 : Nat.Coprime A.natAbs P := cop_dvd a.reduced (Nat.dvd_trans (Nat.gcd_dvd_left _ _) ⟨G1, by rw [n1, Nat.mul_comm]⟩) (Nat.dvd_trans (Nat.gcd_dvd_right _ _) ⟨G2, by rw [hP, Nat.mul_comm]⟩)
  have c4 : Nat.Coprime B.natAbs Q := cop_dvd b.reduced (Nat.dvd_trans (Nat.gcd_dvd_left _ _) ⟨G2, by rw [n2, Nat.mul_comm]⟩) (Nat.dvd_trans (Nat.gcd_dvd_right _ _) ⟨G1, by rw [hQ, Nat.mul_comm]⟩)
  have hpos : 0 < (P : Int) * (Q : Int) := by
    have k1 := a.den_pos
    have k2 := b.den_pos
    rw [hP] at k1
    rw [hQ] at k2
    have k3 := Nat.pos_of_mul_pos_left k1
    have k4 := Nat.pos_of_mul_pos_left k2
    exact Int.mul_pos (by omega) (by omega)
  refine rat_eq hpos ?_ ?_
  · rw [← Int.natCast_mul, Int.natAbs_natCast, Int.natAbs_mul]
    exact Nat.Coprime.mul_left (Nat.Coprime.mul_right c3 c1) (Nat.Coprime.mul_right c2 c4)
  · have h5 := (rat_cross (n := a.num * b.num) (q := a * b) (Int.mul_ne_zero (den_ne a) (den_ne b))).1 (rmul a b).symm
    generalize (a * b).den = D at *
    generalize (a * b).num = N at *
    rw [hA, hB, hP, hQ] at h5
    simp only [Int.natCast_mul] at h5
    have k1 : (G1 : Int) * A * (G2 * B) = G1 * (G2 * (A * B)) := by rw [Int.mul_assoc, Int.mul_left_comm A]
    have k2 : (G2 : Int) * P * (G1 * Q) = G1 * (G2 * ((P : Int) * Q)) := by
      rw [Int.mul_assoc, Int.mul_left_comm (P : Int), Int.mul_left_comm (G2 : Int) (G1 : Int)]
    rw [k1, k2] at h5
    refine Int.eq_of_mul_eq_mul_left i2 (Int.eq_of_mul_eq_mul_left i1 ?_)
    rw [← Int.mul_assoc, ← Int.mul_assoc, Int.mul_assoc (G1 : Int), h5, Int.mul_left_comm N, Int.mul_left_comm N]
end Iv
end

section
set_option linter.unusedVariables false
namespace Den
open Go Iv
section
variable {h : Hp} {m n : Int} {a b : TInt} {x y : TRat} {p q : Rat} {j k : Nat} {Ki : Int → Hp → Prop} {Kb : Bool → Hp → Prop} {KI : TInt → Hp → Prop} {KR : TRat → Hp → Prop} {KE : (TRat × Int) → Hp → Prop}

theorem dpos (q : Rat) : 0 < (q.den : Int) := by have := q.den_pos; omega
theorem natAbs_den (q : Rat) : ((q.den : Nat) : Int).natAbs = q.den := Int.natAbs_natCast _
theorem rqFromInt_call (h1 : -9223372036854775808 ≤ n) (h2 : n ≤ 9223372036854775807) (H : ∀ z h', h.le h' → NR h' z (n : Rat) → KR z h') : callP (F.ref02_FromInt n) KR h := by
  refine callP_of _ (fun K' hk => ?_) H
  unfold F.ref02_FromInt
  refine rFromInt_call h1 h2 fun z h3 hl3 hz => rFromInt_call (by decide) (by decide) fun w h4 hl4 hw => hk _ _ (Hp.le_trans hl3 hl4) ⟨?_, ?_⟩
  · exact hz.le hl4
  · exact hw
theorem rqSign_call (hx : NR h x p) (op : BR k p) (hk : k ≤ 1000000000000) (H : Ki p.num.sign h) : callP (F.ref02_Sign x) Ki h :=
  callP_same _ (fun K' hk => by unfold F.ref02_Sign; exact rSign_call hx.1 (op.1.ok (by omega)) hk) H
theorem rqCmp_call (hx : NR h x p) (hy : NR h y q) (op : BR k p) (oq : BR j q) (hk : k ≤ 1000000000000) (hj : j ≤ 1000000000000) (H : ∀ h', h.le h' → Ki (cmpQ p q) h') : callP (F.ref02_Cmp x y) Ki h := by
  refine callP_of (fun v _ => v = cmpQ p q) (fun K' hk => ?_) fun v h' hl hv => by subst hv; exact H h' hl
  unfold F.ref02_Cmp
  have l1 := op.1.mul oq.2
  have l2 := (oq.1.mul op.2).mono (show j + k ≤ k + j by omega)
  refine rMul_call hx.1 hy.2 (op.1.ok (by omega)) (oq.2.ok (by omega)) fun z h3 hl3 hz => ?_
  refine rMul_call (hy.1.le hl3) (hx.2.le hl3) (oq.1.ok (by omega)) (op.2.ok (by omega)) fun w h4 hl4 hw => ?_
  have os : Ok (p.num * q.den - q.num * p.den) := by
    rw [Int.sub_eq_add_neg]
    exact (l1.addm l2.neg).ok (by omega)
  refine rCmp_call (hz.le hl4) hw (l1.ok (by omega)) (l2.ok (by omega)) os fun h5 hl5 => hk _ _ (Hp.le_trans hl3 (Hp.le_trans hl4 hl5)) rfl
theorem rqNeg_call (hx : NR h x p) (op : BR k p) (hk : k ≤ 1000000000000) (H : ∀ z, NR h z (-p) → KR z h) : callP (F.ref02_Neg x) KR h := by
  refine callP_rel _ (fun K' hk => ?_) H
  unfold F.ref02_Neg
  refine rNeg_call hx.1 (op.1.ok (by omega)) fun z hz => hk _ ⟨?_, ?_⟩
  · rw [Rat.neg_num]; exact hz
  · rw [Rat.neg_den]; exact hx.2
theorem den_div_le {P G : Nat} : ((P : Int) / G).natAbs ≤ ((P : Int)).natAbs := Int.natAbs_ediv_le_natAbs _ _

theorem rqAdd_call (hx : NR h x p) (hy : NR h y q) (op : BR k p) (oq : BR j q) (hk : k ≤ 400000000000) (hj : j ≤ 400000000000) (H : ∀ z h', h.le h' → NR h' z (p + q) → KR z h') : callP (F.ref02_Add x y) KR h := by
  refine callP_of _ (fun K' hk => ?_) H
  unfold F.ref02_Add
  have op2 := op.2.ok (by omega)
  have oq2 := oq.2.ok (by omega)
  rw [hx.1.len0, hy.1.len0]
  refine ifP_dec (fun h1 => hk _ _ (Hp.le_refl _) ?_) (fun h1 => ifP_dec (fun h2 => hk _ _ (Hp.le_refl _) ?_) (fun h2 => ?_))
  · rw [Rat.num_eq_zero.1 h1, Rat.zero_add]; exact hy
  · rw [Rat.num_eq_zero.1 h2, Rat.add_zero]; exact hx
  refine joinP_inv (fun _ h' => h' = h) ?_ ?_
  · rintro _ h' rfl
    refine rGCD_call hx.2 hy.2 op2 oq2 fun g h3 hl3 hg => ?_
    rw [natAbs_den, natAbs_den] at hg
    refine rone_call hg (ifP_dec (fun h4 => ?_) (fun h4 => ?_))
    · have e := add_one (a := p) (b := q) (by omega)
      refine rMul_call (hx.1.le hl3) (hy.2.le hl3) (op.1.ok (by omega)) oq2 fun u h5 hl5 hu => ?_
      have hl35 := Hp.le_trans hl3 hl5
      refine rMul_call (hy.1.le hl35) (hx.2.le hl35) (oq.1.ok (by omega)) op2 fun v h6 hl6 hv => ?_
      refine rAdd_call (hu.le hl6) hv ((op.1.mul oq.2).ok (by omega)) ((oq.1.mul op.2).ok (by omega)) fun s h7 hl7 hs => ?_
      have hl37 := Hp.le_trans hl35 (Hp.le_trans hl6 hl7)
      refine rMul_call (hx.2.le hl37) (hy.2.le hl37) op2 oq2 fun t h8 hl8 ht => hk _ _ (Hp.le_trans hl37 hl8) ⟨?_, ?_⟩
      · rw [← e.1]; exact hs.le hl8
      · rw [← e.2]; exact ht
    · obtain ⟨g0, g1, g2, e0, e1, e2, e3, e4⟩ := add_low (a := p) (b := q) rfl rfl rfl
      generalize hG : Nat.gcd p.den q.den = G at *
      have oG : Ok (G : Int) := oq2.le (by rw [Int.natAbs_natCast, natAbs_den]; exact Nat.le_of_dvd q.den_pos g2)
      have hGi : (G : Int) ≠ 0 := by omega
      refine rquo_call (hx.2.le hl3) hg op2 oG hGi (.inr (Int.natCast_dvd_natCast.2 g1)) fun u h5 hl5 hu => ?_
      have hl35 := Hp.le_trans hl3 hl5
      refine rquo_call (hy.2.le hl35) (hg.le hl5) oq2 oG hGi (.inr (Int.natCast_dvd_natCast.2 g2)) fun v h6 hl6 hv => ?_
      have hl36 := Hp.le_trans hl35 hl6
      have l1 : Lt k ((p.den : Int) / G) := op.2.le den_div_le
      have l2 : Lt j ((q.den : Int) / G) := oq.2.le den_div_le
      refine rMul_call (hx.1.le hl36) hv (op.1.ok (by omega)) (l2.ok (by omega)) fun s h7 hl7 hs => ?_
      have hl37 := Hp.le_trans hl36 hl7
      refine rMul_call (hy.1.le hl37) (hu.le (Hp.le_trans hl6 hl7)) (oq.1.ok (by omega)) (l1.ok (by omega)) fun t h8 hl8 ht => ?_
      have l3 := op.1.mul l2
      have l4 := (oq.1.mul l1).mono (show j + k ≤ k + j by omega)
      refine rAdd_call (hs.le hl8) ht (l3.ok (by omega)) (l4.ok (by omega)) fun r h9 hl9 hr => ?_
      have hl39 := Hp.le_trans hl37 (Hp.le_trans hl8 hl9)
      have or' := (l3.addm l4).ok (by omega)
      have hl69 : h6.le h9 := Hp.le_trans hl7 (Hp.le_trans hl8 hl9)
      refine rGCD_call hr (hg.le (Hp.le_trans hl5 (Hp.le_trans hl6 hl69))) or' oG fun e h10 hl10 he => ?_
      rw [Int.natAbs_natCast] at he
      generalize ht' : p.num * ((q.den : Int) / G) + q.num * ((p.den : Int) / G) = T at *
      generalize hE : Nat.gcd T.natAbs G = E at *
      have oE : Ok (E : Int) := oG.le (by rw [Int.natAbs_natCast, Int.natAbs_natCast, ← hE]; exact Nat.le_of_dvd g0 (Nat.gcd_dvd_right _ _))
      have hEi : (E : Int) ≠ 0 := by omega
      refine rquo_call (hr.le hl10) he or' oE hEi (.inr e1) fun f h11 hl11 hf => ?_
      refine rquo_call (hy.2.le (Hp.le_trans hl39 (Hp.le_trans hl10 hl11))) (he.le hl11) oq2 oE hEi (.inr (Int.natCast_dvd_natCast.2 e2)) fun w h12 hl12 hw => ?_
      have hl10_12 := Hp.le_trans hl10 (Hp.le_trans hl11 hl12)
      refine rMul_call (hu.le (Hp.le_trans hl6 (Hp.le_trans hl69 hl10_12))) hw (l1.ok (by omega)) (oq2.le den_div_le) fun o h13 hl13 ho => hk _ _ (Hp.le_trans hl39 (Hp.le_trans hl10_12 hl13)) ⟨?_, ?_⟩
      · rw [← e3]; exact hf.le (Hp.le_trans hl12 hl13)
      · rw [← e4]; exact ho
  · refine rone_call hx.2 (ifP_dec (fun h1 => rone_call hy.2 (ifP_dec (fun h2 => ?_) (fun _ => rfl))) (fun _ => rfl))
    refine rAdd_call hx.1 hy.1 (op.1.ok (by omega)) (oq.1.ok (by omega)) fun z h3 hl3 hz => hk _ _ hl3 ?_
    have hd : ((p.den : Nat) : Int) * q.den ≠ 0 := Int.mul_ne_zero (den_ne p) (den_ne q)
    have e := rat_eq (n := p.num + q.num) (d := 1) (q := p + q) (by decide) (Nat.coprime_one_right _) (by
      have := (rat_cross (n := p.num * q.den + q.num * p.den) hd).1 (radd p q).symm
      rw [h1, h2] at this; simpa using this)
    exact ⟨by rw [← e.1]; exact hz, by rw [← e.2, ← h1]; exact hx.2.le hl3⟩
theorem rqMul_call (hx : NR h x p) (hy : NR h y q) (op : BR k p) (oq : BR j q) (hk : k ≤ 400000000000) (hj : j ≤ 400000000000) (H : ∀ z h', h.le h' → NR h' z (p * q) → KR z h') : callP (F.ref02_Mul x y) KR h := by
  refine callP_of _ (fun K' hk => ?_) H
  unfold F.ref02_Mul
  have op1 := op.1.ok (by omega)
  have oq1 := oq.1.ok (by omega)
  have op2 := op.2.ok (by omega)
  have oq2 := oq.2.ok (by omega)
  refine joinP_inv (fun _ h' => h' = h) ?_ ?_
  · rintro _ h' rfl
    refine joinP_inv (fun _ h2 => h2 = h') ?_ ?_
    · rintro _ h2 rfl
      obtain ⟨g1, g2, d1, d2, d3, d4, e1, e2⟩ := mul_low (a := p) (b := q) rfl rfl
      refine rGCD_call hx.1 hy.2 op1 oq2 fun u h3 hl3 hu => ?_
      refine rGCD_call (hy.1.le hl3) (hx.2.le hl3) oq1 op2 fun v h4 hl4 hv => ?_
      rw [natAbs_den] at hu hv
      generalize hG1 : Nat.gcd p.num.natAbs q.den = G1 at *
      generalize hG2 : Nat.gcd q.num.natAbs p.den = G2 at *
      have oG1 : Ok (G1 : Int) := oq2.le (by rw [Int.natAbs_natCast, natAbs_den]; exact Nat.le_of_dvd q.den_pos d4)
      have oG2 : Ok (G2 : Int) := op2.le (by rw [Int.natAbs_natCast, natAbs_den]; exact Nat.le_of_dvd p.den_pos d3)
      have i1 : (G1 : Int) ≠ 0 := by omega
      have i2 : (G2 : Int) ≠ 0 := by omega
      have hl34 := Hp.le_trans hl3 hl4
      refine rquo_call (hx.1.le hl34) (hu.le hl4) op1 oG1 i1 (.inr d1) fun r h5 hl5 hr => ?_
      refine rquo_call (hy.1.le (Hp.le_trans hl34 hl5)) (hv.le hl5) oq1 oG2 i2 (.inr d2) fun s h6 hl6 hs => ?_
      have hl56 := Hp.le_trans hl5 hl6
      refine rMul_call (hr.le hl6) hs (op1.le (Int.natAbs_ediv_le_natAbs _ _)) (oq1.le (Int.natAbs_ediv_le_natAbs _ _)) fun t h7 hl7 ht => ?_
      have hl57 := Hp.le_trans hl56 hl7
      refine rquo_call (hx.2.le (Hp.le_trans hl34 hl57)) (hv.le hl57) op2 oG2 i2 (.inr (Int.natCast_dvd_natCast.2 d3)) fun w h8 hl8 hw => ?_
      have hl58 := Hp.le_trans hl57 hl8
      refine rquo_call (hy.2.le (Hp.le_trans hl34 hl58)) (hu.le (Hp.le_trans hl4 hl58)) oq2 oG1 i1 (.inr (Int.natCast_dvd_natCast.2 d4)) fun o h9 hl9 ho => ?_
      refine rMul_call (hw.le hl9) ho (op2.le den_div_le) (oq2.le den_div_le) fun e h10 hl10 he => hk _ _ (Hp.le_trans hl34 (Hp.le_trans hl58 (Hp.le_trans hl9 hl10))) ⟨?_, ?_⟩
      · rw [← e1]; exact ht.le (Hp.le_trans hl8 (Hp.le_trans hl9 hl10))
      · rw [← e2]; exact he
    · refine rone_call hx.2 (ifP_dec (fun h1 => rone_call hy.2 (ifP_dec (fun h2 => ?_) (fun _ => rfl))) (fun _ => rfl))
      refine rMul_call hx.1 hy.1 op1 oq1 fun z h3 hl3 hz => hk _ _ hl3 ?_
      have hd : ((p.den : Nat) : Int) * q.den ≠ 0 := Int.mul_ne_zero (den_ne p) (den_ne q)
      have e := rat_eq (n := p.num * q.num) (d := 1) (q := p * q) (by decide) (Nat.coprime_one_right _) (by
        have := (rat_cross (n := p.num * q.num) hd).1 (rmul p q).symm
        rw [h1, h2] at this; simpa using this)
      exact ⟨by rw [← e.1]; exact hz, by rw [← e.2, ← h1]; exact hx.2.le hl3⟩
  · rw [hx.1.len0, hy.1.len0]
    refine ifP_dec (fun h1 => ?_) (fun h1 => ifP_dec (fun h2 => ?_) (fun h2 => rfl))
    · refine rqFromInt_call (by decide) (by decide) fun z h3 hl3 hz => hk _ _ hl3 ?_
      rw [Rat.num_eq_zero.1 h1, Rat.zero_mul]; exact hz
    · refine rqFromInt_call (by decide) (by decide) fun z h3 hl3 hz => hk _ _ hl3 ?_
      rw [Rat.num_eq_zero.1 h2, Rat.mul_zero]; exact hz

theorem inv_low {q : Rat} (h0 : q.num ≠ 0) : (q.num < 0 → -(q.den : Int) = (q⁻¹).num ∧ -q.num = (q⁻¹).den) ∧ (¬ q.num < 0 → (q.den : Int) = (q⁻¹).num ∧ q.num = (q⁻¹).den) := by
  have h1 := (rat_cross (n := q.den) (q := q⁻¹) h0).1 (Rat.inv_def q).symm
  constructor
  · intro h2
    refine rat_eq (by omega) ?_ ?_
    · rw [Int.natAbs_neg, Int.natAbs_neg, Int.natAbs_natCast]; exact Nat.Coprime.symm q.reduced
    · rw [Int.neg_mul, Int.mul_neg, h1]
  · intro h2
    refine rat_eq (by omega) ?_ h1
    rw [Int.natAbs_natCast]; exact Nat.Coprime.symm q.reduced
theorem BR.inv {q : Rat} (oq : BR k q) (h0 : q.num ≠ 0) : BR k q⁻¹ := by
  have h1 := inv_low h0
  by_cases h2 : q.num < 0
  · have := h1.1 h2
    exact ⟨by rw [← this.1]; exact oq.2.neg, by rw [← this.2]; exact oq.1.neg⟩
  · have := h1.2 h2
    exact ⟨by rw [← this.1]; exact oq.2, by rw [← this.2]; exact oq.1⟩
theorem rqInv_call (hy : NR h y q) (oq : BR k q) (hk : k ≤ 1000000000000) (h0 : q.num ≠ 0) (H : ∀ z, NR h z (q⁻¹) → KR z h) : callP (F.ref02_Inv y) KR h := by
  refine callP_rel _ (fun K' hk => ?_) H
  unfold F.ref02_Inv
  have h1 := inv_low h0
  rw [hy.1.2]
  refine ifP_dec (fun h2 => ?_) (fun h2 => ?_)
  · have e := h1.1 h2
    refine rNeg_call hy.2 (oq.2.ok (by omega)) fun u hu => rNeg_call hy.1 (oq.1.ok (by omega)) fun v hv => hk _ ⟨?_, ?_⟩
    · rw [← e.1]; exact hu
    · rw [← e.2]; exact hv
  · have e := h1.2 h2
    exact hk _ ⟨by rw [← e.1]; exact hy.2, by rw [← e.2]; exact hy.1⟩
theorem rqDiv_call (hx : NR h x p) (hy : NR h y q) (op : BR k p) (oq : BR j q) (hk : k ≤ 400000000000) (hj : j ≤ 400000000000) (h0 : q.num ≠ 0) (H : ∀ z h', h.le h' → NR h' z (p / q) → KE (z, 0) h') : callP (F.ref02_Div x y) KE h := by
  refine callP_of (fun v h' => NR h' v.1 (p / q) ∧ v.2 = 0) (fun K' hk => ?_) fun ⟨z, c⟩ h' hl ⟨hz, hc⟩ => by
    simp only at hc; subst hc; exact H z h' hl hz
  unfold F.ref02_Div
  rw [hy.1.len0]
  refine ifP_dec (fun h1 => absurd h1 h0) (fun _ => ?_)
  refine rqInv_call hy oq (by omega) h0 fun w hw => rqMul_call hx hw op (oq.inv h0) (by omega) (by omega) fun z h1 hl1 hz => hk _ _ hl1 ⟨?_, rfl⟩
  rw [Rat.div_def]; exact hz
theorem dg_inj {m n : Nat} (h : dg m = dg n) : m = n := by rw [← vl_dg m, ← vl_dg n, h]
end
end Den
end

section
set_option linter.unusedVariables false
namespace Iv
open Den
/-- s is the square root of m, rounded down. -/
def IsSq (m s : Nat) : Prop := s * s ≤ m ∧ m < (s + 1) * (s + 1)
theorem sq_lt {a b : Nat} (h : a * a < b * b) : a < b := by
  rcases Nat.lt_or_ge a b with h1 | h1
  · exact h1
  · have := Nat.mul_le_mul h1 h1; omega
theorem IsSq.uniq {m s t : Nat} (h : IsSq m s) (h2 : IsSq m t) : s = t := by
  have h3 : s < t + 1 := sq_lt (Nat.lt_of_le_of_lt h.1 h2.2)
  have h4 : t < s + 1 := sq_lt (Nat.lt_of_le_of_lt h2.1 h.2)
  omega
end Iv
namespace Den
open Go Iv
section
variable {h : Hp} {m n : Int} {a b : TInt} {x y : Sl} {l : List Nat} {j k : Nat} {Ks : Sl → Hp → Prop} {Ki : Int → Hp → Prop} {Kb : Bool → Hp → Prop} {KI : TInt → Hp → Prop} {KE : (TInt × Int) → Hp → Prop}

end
end Den
end

section
set_option linter.unusedVariables false
namespace Iv
open Den
end Iv
namespace Den
open Go Iv
section
variable {h : Hp} {a : TInt} {KE : (TInt × Int) → Hp → Prop}
end
end Den
end

section
set_option linter.unusedVariables false
namespace Den
open Go Iv

theorem flat_get {α : Type} {c : α → List Value} {n : Nat} (hc : ∀ x, (c x).length = n) : ∀ {xs : List α} {k j : Nat} (hk : k < xs.length), j < n → (xs.flatMap c)[k * n + j]? = (c xs[k])[j]?
  | [], k, j, hk, _ => by simp at hk
  | x :: r, 0, j, hk, hj => by
    rw [List.flatMap_cons, Nat.zero_mul, Nat.zero_add, List.getElem?_append_left (by rw [hc]; exact hj)]
    rfl
  | x :: r, k + 1, j, hk, hj => by
    rw [List.flatMap_cons, List.getElem?_append_right (by rw [hc, Nat.add_mul]; omega), hc]
    have : (k + 1) * n + j - n = k * n + j := by rw [Nat.add_mul]; omega
    rw [this, flat_get hc (by simpa using hk) hj]
    rfl
theorem flat_len {α : Type} {c : α → List Value} {n : Nat} (hc : ∀ x, (c x).length = n) (xs : List α) : (xs.flatMap c).length = xs.length * n := by
  induction xs with
  | nil => simp
  | cons x r ih => rw [List.flatMap_cons, List.length_append, hc, ih, List.length_cons, Nat.add_mul]; omega

/-- The cells of a rational number. -/
def qc (x : TRat) : List Value := [.bool x.num.neg, .slice x.num.mag.a x.num.mag.len x.num.mag.cap, .bool x.den.neg, .slice x.den.mag.a x.den.mag.len x.den.mag.cap]
theorem qc_len (x : TRat) : (qc x).length = 4 := rfl
abbrev RdQ (h : Hp) (l : Sl) (xs : List TRat) : Prop := Rd h 4 l (xs.flatMap qc)
theorem RdQ.len {h : Hp} {l : Sl} {xs : List TRat} (hr : RdQ h l xs) : l.len = xs.length := by
  have := hr.1
  rw [flat_len qc_len] at this; omega
theorem rd_rat {h : Hp} {l : Sl} {xs : List TRat} {i : Int} {K : Bool → Sl → Bool → Sl → Prop} (k : Nat) (hr : RdQ h l xs) (hi : i = k) (hk : k < xs.length)
    (H : K xs[k].num.neg xs[k].num.mag xs[k].den.neg xs[k].den.mag) :
    idxP l i 4 fun a => ldL .bool (a.add 0) (fun x0 => ldL .sl (a.add 1) (fun x1 => ldL .bool (a.add 2) (fun x2 => ldL .sl (a.add 3) (fun x3 => K x0 x1 x2 x3) h) h) h) h := by
  refine idxP_of k hr hi (by rw [hr.len]; exact hk) (by decide) fun a ha => ?_
  have g : ∀ j v, j < 4 → (qc xs[k])[j]? = some v → h.cell (a.add j) = some v := fun j v hj hv => ha j v (by rw [flat_get qc_len hk hj]; exact hv)
  exact ⟨_, g 0 _ (by decide) rfl, _, g 1 _ (by decide) rfl, _, g 2 _ (by decide) rfl, _, g 3 _ (by decide) rfl, H⟩
/-- Numbers and what they stand for. -/
def QL (h : Hp) (B : Nat) (xs : List TRat) (vs : List Rat) : Prop := xs.length = vs.length ∧ ∀ k (h1 : k < xs.length) (h2 : k < vs.length), NR h xs[k] vs[k] ∧ BR B vs[k]
theorem QL.le {h h' : Hp} {B : Nat} {xs : List TRat} {vs : List Rat} (hq : QL h B xs vs) (hl : h.le h') : QL h' B xs vs := ⟨hq.1, fun k h1 h2 => ⟨(hq.2 k h1 h2).1.le hl, (hq.2 k h1 h2).2⟩⟩
/-- x is the interval from l to u. -/
def NV (h : Hp) (x : TInterval) (l u : Rat) : Prop := NR h x.low l ∧ NR h x.high u
theorem NV.le {h h' : Hp} {x : TInterval} {l u : Rat} (hx : NV h x l u) (hl : h.le h') : NV h' x l u := ⟨hx.1.le hl, hx.2.le hl⟩
abbrev q4 (s : Bool × Sl × Bool × Sl × Unit) : TRat := ⟨⟨s.1, s.2.1⟩, ⟨s.2.2.1, s.2.2.2.1⟩⟩

theorem take_foldl {f : Rat → Rat → Rat} {q : Rat} {l : List Rat} {i : Nat} (hi : i < l.length) : (l.take (i + 1)).foldl f q = f ((l.take i).foldl f q) l[i] := by
  rw [List.take_succ_eq_append_getElem hi, List.foldl_append]; rfl

section
variable {h : Hp} {l : Sl} {B : Nat} {xs : List TRat} {vs : List Rat} {v0 : Rat} {KV : TInterval → Hp → Prop}

theorem BR_zero : BR 1 0 := ⟨by unfold Lt; decide, by unfold Lt; decide⟩
end
end Den
end

section
set_option linter.unusedVariables false
namespace Den
open Go Iv
namespace Hp
def del (h : Hp) (b : Nat) : Hp := fun k => if k = b then none else h k
def one (h : Hp) (b : Nat) : Hp := fun k => if k = b then h k else none
theorem del_le (h : Hp) (b : Nat) : (h.del b).le h := fun k B hk => by
  unfold del at hk; split at hk
  · cases hk
  · exact hk
theorem del_same (h : Hp) (b : Nat) : (h.del b) b = none := by simp [del]
theorem add_assoc' (a b c : Hp) : (a.add b).add c = a.add (b.add c) := by
  funext k; unfold add; cases a k <;> rfl
end Hp

theorem callP_frame {α : Type} {G : (α → Hp → Prop) → Hp → Prop} {K1 K : α → Hp → Prop} {D O : Hp} (hd : D.dj O) (H : callP G K1 D) (k : ∀ v D', D.le D' → D'.dj O → K1 v D' → K v (D'.add O)) : callP G K (D.add O) := by
  obtain ⟨D1, O1, Q, h1, h2, h3, h4⟩ := H
  refine ⟨D1, O1.add O, Q, ?_, ?_, h3, fun v D' hq => ⟨(h4 v D' hq).1, fun hdj hfin => ?_⟩⟩
  · intro k
    rcases h1 k with h5 | h5
    · exact .inl h5
    · rcases hd k with h6 | h6
      · rw [h2] at h6; exact .inl (Hp.add_none.1 h6).1
      · exact .inr (Hp.add_none.2 ⟨h5, h6⟩)
  · rw [h2, Hp.add_assoc']
  · have h5 := h4 v D' hq
    have hdj1 : D'.dj O1 := fun k => by
      rcases hdj k with h6 | h6
      · exact .inl h6
      · exact .inr (Hp.add_none.1 h6).1
    have hdj2 : (D'.add O1).dj O := fun k => by
      rcases hdj k with h6 | h6
      · rcases hd k with h7 | h7
        · rw [h2] at h7; exact .inl (Hp.add_none.2 ⟨h6, (Hp.add_none.1 h7).2⟩)
        · exact .inr h7
      · exact .inr (Hp.add_none.1 h6).2
    have hfin1 : (D'.add O1).Fin := Hp.Fin.sub hfin fun k hk => by
      rw [← Hp.add_assoc'] at hk; exact (Hp.add_none.1 hk).1
    have h6 := h5.2 hdj1 hfin1
    rw [← Hp.add_assoc']
    refine k v _ ?_ hdj2 h6
    rw [h2]
    exact Hp.add_mono h5.1 hdj1

/-- The memory without a list's. -/
def HD (h : Hp) (s : Sl) : Hp := match s.a with | none => h | some a => h.del a.block
/-- What Own says of memory that does not reach the list. -/
theorem Own.hd {h0 h : Hp} {size : Nat} {y : Sl} {cs : List Value} (ho : Own h0 h size y cs) : h0.le (HD h y) ∧ Own (HD h y) h size y cs := by
  obtain ⟨g1, g2, g3, g4⟩ := ho
  cases ha : y.a with
  | none =>
    have e : HD h y = h := by unfold HD; rw [ha]
    rw [ha] at g4
    exact ⟨by rw [e]; exact g1, by rw [e]; exact Hp.le_refl _, g2, g3, by rw [ha]; exact g4⟩
  | some a =>
    have e : HD h y = h.del a.block := by unfold HD; rw [ha]
    rw [ha] at g4
    obtain ⟨k1, k2, k3, k4⟩ := g4
    refine ⟨?_, by rw [e]; exact Hp.del_le _ _, g2, g3, ?_⟩
    · rw [e]
      intro k B hk
      have : k ≠ a.block := fun hh => by rw [hh, k3] at hk; cases hk
      unfold Hp.del
      rw [if_neg this]
      exact g1 k B hk
    · rw [ha]; exact ⟨k1, k2, by rw [e]; exact Hp.del_same _ _, k4⟩
end Den
end

section
set_option linter.unusedVariables false
namespace Den
open Go Iv
section
variable {h : Hp} {l : Sl} {B : Nat} {xs : List TRat} {vs : List Rat} {v0 : Rat} {KV : TInterval → Hp → Prop} {Ks : Sl → Hp → Prop}

theorem QL.nil : QL h B [] [] := ⟨rfl, fun k h1 _ => by simp at h1⟩
theorem QL.cons {x : TRat} {v : Rat} (h1 : NR h x v) (h2 : BR B v) (hq : QL h B xs vs) : QL h B (x :: xs) (v :: vs) := by
  refine ⟨by simp [hq.1], fun k k1 k2 => ?_⟩
  cases k with
  | zero => exact ⟨h1, h2⟩
  | succ k =>
    simp only [List.getElem_cons_succ]
    exact hq.2 k (by simpa using k1) (by simpa using k2)
theorem QL.snoc {x : TRat} {v : Rat} (hq : QL h B xs vs) (h1 : NR h x v) (h2 : BR B v) : QL h B (xs ++ [x]) (vs ++ [v]) := by
  refine ⟨by simp [hq.1], fun k k1 k2 => ?_⟩
  have hl := hq.1
  rcases Nat.lt_or_ge k xs.length with h3 | h3
  · rw [List.getElem_append_left h3, List.getElem_append_left (by omega)]
    exact hq.2 k h3 (by omega)
  · have h4 : k = xs.length := by simp at k1; omega
    subst h4
    rw [List.getElem_append_right (Nat.le_refl _), List.getElem_append_right (by omega)]
    simp only [Nat.sub_self, List.getElem_cons_zero]
    have : xs.length - vs.length = 0 := by omega
    simp only [this, List.getElem_cons_zero]
    exact ⟨h1, h2⟩
/-- A list in new memory. -/
theorem new_rats {K : Addr → Hp → Prop} (n : Nat) (hn : xs.length = n) (H : ∀ a h', h.le h' → RdQ h' ⟨some a, n, n⟩ xs → K a h') : newP (xs.flatMap qc) K h :=
  new_own (n := n) (size := 4) (by rw [flat_len qc_len, hn]) fun b h' hb ho => H _ h' ho.1 ho.rd

end
end Den
end

section
set_option linter.unusedVariables false
namespace Iv
open Den
end Iv
namespace Den
open Go Iv
section
variable {h : Hp} {a b : TInterval} {x : TRat} {p al au bl bu : Rat} {j k : Nat} {Ki : Int → Hp → Prop} {Kb : Bool → Hp → Prop} {KR : TRat → Hp → Prop} {KV : TInterval → Hp → Prop} {KVE : (TInterval × Int) → Hp → Prop} {KIB : (Int × Bool) → Hp → Prop} {KVB : (TInterval × Bool) → Hp → Prop}

theorem BR_one : BR 1 ((1 : Int) : Rat) := ⟨by unfold Lt; decide, by unfold Lt; decide⟩
end
end Den
end

section
set_option linter.unusedVariables false
namespace Iv
open Den
/-- t is the least number whose square is not less than m / n. -/
def UP (m n : Int) (t : Nat) : Prop := m ≤ (t : Int) * t * n ∧ (t = 0 ∨ ∃ s : Nat, t = s + 1 ∧ (s : Int) * s * n < m)
theorem UP.uniq {m n : Int} {t u : Nat} (hn : 0 < n) (h1 : UP m n t) (h2 : UP m n u) : t = u := by
  have key : ∀ {t u : Nat}, UP m n t → UP m n u → ¬ t < u := fun {t u} h1 h2 hlt => by
    rcases h2.2 with h3 | ⟨s, h3, h4⟩
    · omega
    · have h5 : (t : Int) * t ≤ (s : Int) * s := by
        have : t * t ≤ s * s := Nat.mul_le_mul (by omega) (by omega)
        exact_mod_cast this
      have h6 := Int.mul_le_mul_of_nonneg_right h5 (Int.le_of_lt hn)
      have := h1.1
      omega
  have k1 := key h1 h2
  have k2 := key h2 h1
  omega
end Iv
end

section
set_option linter.unusedVariables false
namespace Den
open Go Iv
section
variable {h : Hp} {a b : TInterval} {x : TRat} {y : TInt} {p al au bl bu : Rat} {N : Int} {j k : Nat} {Ki : Int → Hp → Prop} {Kb : Bool → Hp → Prop} {KI : TInt → Hp → Prop} {KR : TRat → Hp → Prop} {KV : TInterval → Hp → Prop} {KVE : (TInterval × Int) → Hp → Prop} {KIB : (Int × Bool) → Hp → Prop} {KVB : (TInterval × Bool) → Hp → Prop}

end
end Den
end

section
set_option linter.unusedVariables false
namespace Iv
end Iv
namespace Den
open Go Iv
section
variable {h : Hp} {a b : TInterval} {x : TRat} {y : TInt} {p al au bl bu : Rat} {j k : Nat} {KVE : (TInterval × Int) → Hp → Prop}

end
end Den
end
