/- Layer 2: whatever a sound value is told as, with blanks or without, is read as that value (plain). -/
import Derived.Test.YtnjhmnolngdfaaaGreatDoorBlA
namespace Go.Proofs.YtnjhmnolngdfaaaGreatDoor
open Go.RowKit Go.PlainAid
set_option linter.unusedVariables false
set_option linter.unusedSimpArgs false
def nullL : List UInt8 := [110, 117, 108, 108]
def trueL : List UInt8 := [116, 114, 117, 101]
def falseL : List UInt8 := [102, 97, 108, 115, 101]
mutual
/-- A value's text, with the blanks G around brackets, commas and colons. -/
def pr (G : List UInt8) : JT → List UInt8
  | .mk k b i t l ns vs =>
    if k = 0 then nullL else if k = 1 then (if b = true then trueL else falseL) else if k = 2 then figL i else if k = 3 then quo t
    else if k = 4 then 91 :: (prL G true l ++ [93]) else 123 :: (prF G true ns vs ++ [125])
def prL (G : List UInt8) : Bool → List JT → List UInt8
  | _, [] => []
  | f, x :: r => (if f = true then [] else [44]) ++ (G ++ (pr G x ++ (G ++ prL G false r)))
def prF (G : List UInt8) : Bool → List ByteArray → List JT → List UInt8
  | f, n :: ns, x :: vs => (if f = true then [] else [44]) ++ (G ++ (quo n ++ (G ++ (58 :: (G ++ (pr G x ++ (G ++ prF G false ns vs)))))))
  | _, [], _ => []
  | _, _ :: _, [] => []
end
mutual
/-- A value with nothing in what its kind doesn't use. -/
def plnT : JT → JT
  | .mk k b i t l ns vs =>
    if k = 1 then .mk k b 0 ⟨#[]⟩ [] [] [] else if k = 2 then .mk k false i ⟨#[]⟩ [] [] [] else if k = 3 then .mk k false 0 t [] [] []
    else if k = 4 then .mk k false 0 ⟨#[]⟩ (plnL l) [] [] else if k = 5 then .mk k false 0 ⟨#[]⟩ [] ns (plnL vs) else .mk k false 0 ⟨#[]⟩ [] [] []
def plnL : List JT → List JT
  | [] => []
  | x :: r => plnT x :: plnL r
end
mutual
/-- As many names as values. -/
def LenT : JT → Prop
  | .mk k b i t l ns vs => LenL l ∧ ns.length = vs.length ∧ LenL vs
def LenL : List JT → Prop
  | [] => True
  | x :: r => LenT x ∧ LenL r
end
theorem pr_head (G : List UInt8) (t : JT) : ∃ c r, pr G t = c :: r ∧ blankI (c.toNat : Int) = false ∧ c.toNat ≠ 93 ∧ c.toNat ≠ 125 := by
  obtain ⟨k, b, i, t, l, ns, vs⟩ := t
  unfold pr
  split
  · exact ⟨_, _, rfl, by decide, by decide, by decide⟩
  · split
    · split
      · exact ⟨_, _, rfl, by decide, by decide, by decide⟩
      · exact ⟨_, _, rfl, by decide, by decide, by decide⟩
    · split
      · obtain ⟨c, r, h1, h2⟩ := fig_head i
        refine ⟨c, r, h1, ?_, by omega, by omega⟩
        unfold blankI
        simp
        omega
      · split
        · exact ⟨_, _, rfl, by decide, by decide, by decide⟩
        · split
          · exact ⟨_, _, rfl, by decide, by decide, by decide⟩
          · exact ⟨_, _, rfl, by decide, by decide, by decide⟩
theorem nodig_blank {G L : List UInt8} {c : UInt8} (hG : Blanks G) (hc : digI (c.toNat : Int) = false) : NoDig (G ++ c :: L) := by
  intro x r h
  cases G with
  | nil => injection h with h1 _; rw [← h1]; exact hc
  | cons g G' =>
    injection h with h1 _
    have := hG g (by simp)
    rw [← h1]
    unfold blankI at this
    unfold digI
    simp at this ⊢
    omega
theorem word_read {s v : ByteArray} : ∀ (n i : Nat) (R : List UInt8), n ≤ v.size → LAt s i (v.data.toList.drop (v.size - n)) R → wordTo s v n i = .ok () (i + n)
  | 0, i, R, _, _ => rfl
  | n + 1, i, R, hn, h => by
    have hl : v.size - (n + 1) < v.data.toList.length := by simp; omega
    rw [List.drop_eq_getElem_cons hl] at h
    obtain ⟨g1, g2, g3, g4⟩ := h.head
    have hb : bt v (v.size - (n + 1)) = ((v.data.toList[v.size - (n + 1)]'hl).toNat : Int) := by
      unfold bt
      rw [dif_pos (by omega)]
      rfl
    unfold wordTo
    rw [if_pos (by rw [g3, hb]), word_read n (i + 1) R (by omega) (by rw [show v.size - n = v.size - (n + 1) + 1 by omega]; exact g4)]
    congr 1
    omega
/-- What reading a value within d more lists and objects gives. -/
def Reads1 (s : ByteArray) (G : List UInt8) (d : Nat) (t : JT) : Prop := ∀ (i : Nat) (R : List UInt8), LAt s i (pr G t) R → NoDig R → valueTo s d i = .ok (plnT t) (i + (pr G t).length)
theorem list_read {s : ByteArray} {G : List UInt8} (hG : Blanks G) {d : Nat} : ∀ (l : List JT) (x : JT) (acc : List JT) (n i : Nat) (R : List UInt8), Reads1 s G d x → (∀ y ∈ l, Reads1 s G d y) →
    LAt s i (pr G x ++ (G ++ (prL G false l ++ [93]))) R → s.size < i + n → eachL s 93 (listStep (valueTo s d)) n i acc = .ok (acc ++ (plnT x :: plnL l)) (i + (pr G x ++ (G ++ (prL G false l ++ [93]))).length)
  | l, x, acc, n, i, R, hx, hl, h, hn => by
    obtain ⟨c, r, hc, hc1, hc2, hc3⟩ := pr_head G x
    have hlt : i < s.size := by
      have h2 := h.left
      rw [hc] at h2
      exact h2.head.1
    obtain ⟨m, rfl⟩ : ∃ m, n = m + 1 := ⟨n - 1, by omega⟩
    have hr := h.right
    cases l with
    | nil =>
      have hp : prL G false [] = [] := by unfold prL; rfl
      rw [hp, List.nil_append] at h hr ⊢
      have h1 := hx i _ h.left (by
        rw [List.append_assoc]
        exact nodig_blank hG (c := 93) (by decide))
      have hsk := skip_at hG (c := 93) (L := []) hr (by decide)
      have h93 : pk s (i + (pr G x).length + G.length) = 93 := (hr.right.head).2.2.1
      unfold eachL listStep
      rw [h1]
      show (if pk s (skipTo s (i + (pr G x).length)) = 93 then _ else _) = _
      rw [hsk, if_pos h93]
      have hpl : plnL [] = [] := by unfold plnL; rfl
      rw [hpl]
      congr 1
      simp
      omega
    | cons y l' =>
      have hp : prL G false (y :: l') = 44 :: (G ++ (pr G y ++ (G ++ prL G false l'))) := by
        rw [prL]; rfl
      rw [hp] at h hr ⊢
      have h1 := hx i _ h.left (by
        rw [List.cons_append, List.append_assoc, List.cons_append]
        exact nodig_blank hG (c := 44) (by decide))
      rw [List.cons_append] at hr
      have hsk := skip_at hG (c := 44) hr (by decide)
      have h44 := hr.right.head
      have h44p : pk s (i + (pr G x).length + G.length) = 44 := h44.2.2.1
      have h45 := h44.2.2.2
      rw [List.append_assoc, List.append_assoc, List.append_assoc] at h45
      obtain ⟨c', r', hc', hc1', hc2', hc3'⟩ := pr_head G y
      have hsk2 : skipTo s (i + (pr G x).length + G.length + 1) = i + (pr G x).length + G.length + 1 + G.length := by
        have h46 := h45
        rw [hc', List.cons_append] at h46
        exact skip_at hG h46 hc1'
      have ih := list_read hG l' y (acc ++ [plnT x]) m (i + (pr G x).length + G.length + 1 + G.length) R (hl y (by simp)) (fun z hz => hl z (by simp [hz])) h45.right (by omega)
      unfold eachL listStep
      rw [h1]
      show (if pk s (skipTo s (i + (pr G x).length)) = 93 then _ else if pk s (skipTo s (i + (pr G x).length)) = 44 then _ else _) = _
      rw [hsk, h44p, if_neg (by decide), if_pos rfl, hsk2]
      show eachL s 93 (listStep (valueTo s d)) m _ (acc ++ [plnT x]) = _
      rw [ih]
      have hpl : plnL (y :: l') = plnT y :: plnL l' := by rw [plnL]
      rw [hpl]
      congr 1
      · simp
      · simp
        omega
theorem colon_read {s : ByteArray} {i : Nat} {L R : List UInt8} (h : LAt s i (58 :: L) R) : wordTo s ⟨#[58]⟩ 1 i = .ok () (i + 1) := by
  obtain ⟨g1, g2, g3, g4⟩ := h.head
  unfold wordTo
  rw [if_pos (by rw [g3]; decide)]
  rfl
theorem obj_read {s : ByteArray} {G : List UInt8} (hG : Blanks G) {d : Nat} : ∀ (ns : List ByteArray) (vs : List JT) (nm : ByteArray) (x : JT) (an : List ByteArray) (av : List JT) (n i : Nat) (R : List UInt8), ns.length = vs.length → Reads1 s G d x → (∀ y ∈ vs, Reads1 s G d y) →
    sndF an (nm :: ns) (x :: vs) (d : Int) = true → LAt s i (quo nm ++ (G ++ (58 :: (G ++ (pr G x ++ (G ++ (prF G false ns vs ++ [125]))))))) R → s.size < i + n →
    eachL s 125 (objStep s (valueTo s d)) n i (an, av) = .ok (an ++ (nm :: ns), av ++ (plnT x :: plnL vs)) (i + (quo nm ++ (G ++ (58 :: (G ++ (pr G x ++ (G ++ (prF G false ns vs ++ [125]))))))).length)
  | ns, vs, nm, x, an, av, n, i, R, hlen, hx, hl, hs, h, hn => by
    unfold sndF at hs
    simp only [Bool.and_eq_true, decide_eq_true_eq] at hs
    obtain ⟨⟨hb, hsx⟩, hnh, hrest⟩ := hs
    obtain ⟨ht, h34⟩ := text_read h.left hb
    have hlt : i < s.size := pk_lt h34 (by omega)
    obtain ⟨m, rfl⟩ : ∃ m, n = m + 1 := ⟨n - 1, by omega⟩
    have hr := h.right
    have hsk := skip_at hG (c := 58) hr (by decide)
    have hcol := colon_read hr.right
    have hr2 := hr.right.head.2.2.2
    obtain ⟨c, r, hc, hc1, hc2, hc3⟩ := pr_head G x
    have hsk2 : skipTo s (i + (quo nm).length + G.length + 1) = i + (quo nm).length + G.length + 1 + G.length := by
      have h46 := hr2
      rw [hc, List.cons_append] at h46
      exact skip_at hG h46 hc1
    have hr3 := hr2.right
    have hr4 := hr3.right
    have hstep : ∀ p k, valueTo s d (i + (quo nm).length + G.length + 1 + G.length) = .ok p k → objStep s (valueTo s d) i (an, av) = .ok (an ++ [nm], av ++ [p]) k := fun p k hv => by
      unfold objStep
      rw [if_pos h34, ht]
      show (if hasN an nm = true then _ else _) = _
      rw [if_neg (by simpa using hnh), hsk, hcol]
      show ((valueTo s d (skipTo s (i + (quo nm).length + G.length + 1))).map fun t => (an ++ [nm], av ++ [t])) = _
      rw [hsk2, hv]; rfl
    cases ns with
    | nil =>
      have hv0 : vs = [] := List.eq_nil_of_length_eq_zero hlen.symm
      subst hv0
      have hp : prF G false [] [] = [] := by unfold prF; rfl
      rw [hp, List.nil_append] at hr3 hr4 ⊢
      have h1 := hx _ _ hr3.left (by
        rw [List.append_assoc]
        exact nodig_blank hG (c := 125) (by decide))
      have hsk3 := skip_at hG (c := 125) (L := []) hr4 (by decide)
      have h93 := (hr4.right.head).2.2.1
      have h94 : pk s (i + (quo nm).length + G.length + 1 + G.length + (pr G x).length + G.length) = 125 := h93
      unfold eachL
      rw [hstep _ _ h1]
      show (if pk s (skipTo s (i + (quo nm).length + G.length + 1 + G.length + (pr G x).length)) = 125 then _ else _) = _
      rw [hsk3, if_pos h94]
      have hpl : plnL [] = [] := by unfold plnL; rfl
      rw [hpl]
      congr 1
      simp
      omega
    | cons nm2 ns' =>
      cases vs with
      | nil => simp at hlen
      | cons y vs' =>
        have hp : prF G false (nm2 :: ns') (y :: vs') = 44 :: (G ++ (quo nm2 ++ (G ++ (58 :: (G ++ (pr G y ++ (G ++ prF G false ns' vs'))))))) := by
          rw [prF]; rfl
        rw [hp] at hr3 hr4 ⊢
        have h1 := hx _ _ hr3.left (by
          rw [List.cons_append, List.append_assoc, List.cons_append]
          exact nodig_blank hG (c := 44) (by decide))
        rw [List.cons_append] at hr4
        have hsk3 := skip_at hG (c := 44) hr4 (by decide)
        have h44 := hr4.right.head
        have h44p : pk s (i + (quo nm).length + G.length + 1 + G.length + (pr G x).length + G.length) = 44 := h44.2.2.1
        have h45 := h44.2.2.2
        simp only [List.append_assoc, List.cons_append] at h45
        have hsk4 : skipTo s (i + (quo nm).length + G.length + 1 + G.length + (pr G x).length + G.length + 1) = i + (quo nm).length + G.length + 1 + G.length + (pr G x).length + G.length + 1 + G.length := by
          have h46 := h45
          unfold quo at h46
          rw [List.cons_append] at h46
          exact skip_at hG h46 (by decide)
        have ih := obj_read hG ns' vs' nm2 y (an ++ [nm]) (av ++ [plnT x]) m (i + (quo nm).length + G.length + 1 + G.length + (pr G x).length + G.length + 1 + G.length) R (by simpa using hlen) (hl y (by simp)) (fun z hz => hl z (by simp [hz])) hrest h45.right (by omega)
        unfold eachL
        rw [hstep _ _ h1]
        show (if pk s (skipTo s (i + (quo nm).length + G.length + 1 + G.length + (pr G x).length)) = 125 then _ else if pk s (skipTo s (i + (quo nm).length + G.length + 1 + G.length + (pr G x).length)) = 44 then _ else _) = _
        rw [hsk3, h44p, if_neg (by decide), if_pos rfl, hsk4, ih]
        have hpl : plnL (y :: vs') = plnT y :: plnL vs' := by rw [plnL]
        rw [hpl]
        congr 1
        · simp
        · simp
          omega
theorem snd_each {l : List JT} {d : Int} (h : sndL l d = true) : ∀ x ∈ l, sndT x d = true := by
  induction l with
  | nil => intro x hx; cases hx
  | cons y r ih =>
    unfold sndL at h
    rw [Bool.and_eq_true] at h
    intro x hx
    rcases List.mem_cons.1 hx with rfl | hx
    · exact h.1
    · exact ih h.2 x hx
theorem snd_eachF {d : Int} : ∀ (seen ns : List ByteArray) (vs : List JT), ns.length = vs.length → sndF seen ns vs d = true → ∀ x ∈ vs, sndT x d = true
  | seen, [], [], _, _ => fun x hx => by cases hx
  | seen, [], _ :: _, h, _ => by simp at h
  | seen, _ :: _, [], h, _ => by simp at h
  | seen, n :: ns, y :: r, hlen, h => by
    unfold sndF at h
    simp only [Bool.and_eq_true] at h
    intro x hx
    rcases List.mem_cons.1 hx with rfl | hx
    · exact h.1.2
    · exact snd_eachF _ ns r (by simpa using hlen) h.2.2 x hx
theorem len_each {l : List JT} (h : LenL l) : ∀ x ∈ l, LenT x := by
  induction l with
  | nil => intro x hx; cases hx
  | cons y r ih =>
    unfold LenL at h
    intro x hx
    rcases List.mem_cons.1 hx with rfl | hx
    · exact h.1
    · exact ih h.2 x hx
/-- Whatever a sound value is told as is read as that value. -/
theorem value_read {s : ByteArray} {G : List UInt8} (hG : Blanks G) : ∀ (d : Nat) (t : JT), sndT t (d : Int) = true → LenT t → Reads1 s G d t
  | d, .mk k b i t l ns vs, hs, hlen => by
    intro p R h hR
    unfold sndT at hs
    unfold LenT at hlen
    by_cases k0 : k = 0
    · have hp : pr G (.mk k b i t l ns vs) = nullL := by unfold pr; rw [if_pos k0]
      have hq : plnT (.mk k b i t l ns vs) = jNull := by unfold plnT jNull; subst k0; rfl
      rw [hp] at h ⊢
      rw [hq]
      have h0 : pk s p = 110 := h.head.2.2.1
      unfold valueTo
      rw [if_pos h0, word_read (v := nullW) 4 p R (by decide) h]; rfl
    · by_cases k1 : k = 1
      · cases b with
        | true =>
          have hp : pr G (.mk k true i t l ns vs) = trueL := by unfold pr; rw [if_neg k0, if_pos k1, if_pos rfl]
          have hq : plnT (.mk k true i t l ns vs) = jBool true := by unfold plnT jBool; rw [if_pos k1, k1]
          rw [hp] at h ⊢
          rw [hq]
          have h0 : pk s p = 116 := h.head.2.2.1
          unfold valueTo
          rw [if_neg (by omega), if_pos h0, word_read (v := trueW) 4 p R (by decide) h]; rfl
        | false =>
          have hp : pr G (.mk k false i t l ns vs) = falseL := by unfold pr; rw [if_neg k0, if_pos k1, if_neg (by decide)]
          have hq : plnT (.mk k false i t l ns vs) = jBool false := by unfold plnT jBool; rw [if_pos k1, k1]
          rw [hp] at h ⊢
          rw [hq]
          have h0 : pk s p = 102 := h.head.2.2.1
          unfold valueTo
          rw [if_neg (by omega), if_neg (by omega), if_pos h0, word_read (v := falseW) 5 p R (by decide) h]; rfl
      · rw [if_neg (by omega)] at hs
        by_cases k2 : k = 2
        · rw [if_pos k2] at hs
          simp only [Bool.and_eq_true, decide_eq_true_eq] at hs
          have hp : pr G (.mk k b i t l ns vs) = figL i := by unfold pr; rw [if_neg k0, if_neg k1, if_pos k2]
          have hq : plnT (.mk k b i t l ns vs) = jInt i := by unfold plnT jInt; rw [if_neg k1, if_pos k2, k2]
          rw [hp] at h ⊢
          rw [hq]
          obtain ⟨g1, g2⟩ := num_read h hR hs.1 hs.2
          have hle : pk s p ≤ 57 := by rcases g2 with g2 | g2; omega; unfold digI at g2; simp at g2; omega
          unfold valueTo
          rw [if_neg (by omega), if_neg (by omega), if_neg (by omega), if_pos g2, g1]; rfl
        · rw [if_neg k2] at hs
          by_cases k3 : k = 3
          · rw [if_pos k3] at hs
            have hb : badI t < 0 := by simpa using hs
            have hp : pr G (.mk k b i t l ns vs) = quo t := by unfold pr; rw [if_neg k0, if_neg k1, if_neg k2, if_pos k3]
            have hq : plnT (.mk k b i t l ns vs) = jText t := by unfold plnT jText; rw [if_neg k1, if_neg k2, if_pos k3, k3]
            rw [hp] at h ⊢
            rw [hq]
            obtain ⟨g1, g2⟩ := text_read h hb
            unfold valueTo
            rw [if_neg (by omega), if_neg (by omega), if_neg (by omega), if_neg (by rw [g2]; decide), if_pos g2, g1]; rfl
          · rw [if_neg k3] at hs
            by_cases k4 : k = 4
            · rw [if_pos k4] at hs
              simp only [Bool.and_eq_true, decide_eq_true_eq] at hs
              obtain ⟨hs1, hs2⟩ := hs
              have hp : pr G (.mk k b i t l ns vs) = 91 :: (prL G true l ++ [93]) := by unfold pr; rw [if_neg k0, if_neg k1, if_neg k2, if_neg k3, if_pos k4]
              have hq : plnT (.mk k b i t l ns vs) = jList (plnL l) := by unfold plnT jList; rw [if_neg k1, if_neg k2, if_neg k3, if_pos k4, k4]
              obtain ⟨e, rfl⟩ : ∃ e, d = e + 1 := ⟨d - 1, by omega⟩
              rw [less_nat] at hs1
              have hall : ∀ x ∈ l, Reads1 s G e x := fun x hx => value_read hG e x (snd_each hs1 x hx) (len_each hlen.1 x hx)
              rw [hp] at h ⊢
              rw [hq]
              have h0 : pk s p = 91 := h.head.2.2.1
              have h1 := h.head.2.2.2
              have hv : valueTo s (e + 1) p = (eachTo s 93 (listStep (valueTo s e)) p []).map jList := by
                conv => lhs; unfold valueTo
                rw [if_neg (by omega), if_neg (by omega), if_neg (by omega), if_neg (by rw [h0]; decide), if_neg (by omega), if_neg (by omega)]
                show (if pk s p = 91 then _ else _) = _
                rw [if_pos h0]
              rw [hv]
              cases l with
              | nil =>
                have hpl : prL G true [] = [] := by unfold prL; rfl
                rw [hpl, List.nil_append] at h1 ⊢
                have hsk : skipTo s (p + 1) = p + 1 := skip_at (G := []) (L := []) (fun c hc => by cases hc) h1 (by decide)
                have h2 : pk s (p + 1) = 93 := h1.head.2.2.1
                unfold eachTo
                rw [hsk, if_pos h2]
                have hpl2 : plnL [] = [] := by unfold plnL; rfl
                rw [hpl2]; rfl
              | cons x r =>
                have hpl : prL G true (x :: r) = G ++ (pr G x ++ (G ++ prL G false r)) := by rw [prL]; rfl
                rw [hpl] at h1 ⊢
                simp only [List.append_assoc] at h1 ⊢
                obtain ⟨c, r', hc, hc1, hc2, hc3⟩ := pr_head G x
                have h46 := h1
                rw [hc, List.cons_append] at h46
                have hsk := skip_at hG h46 hc1
                have hpk : pk s (p + 1 + G.length) = c.toNat := h46.right.head.2.2.1
                unfold eachTo
                rw [hsk, hpk, if_neg (by omega), list_read hG r x [] (s.size + 1) (p + 1 + G.length) R (hall x (by simp)) (fun y hy => hall y (by simp [hy])) h1.right (by omega)]
                have hpl2 : plnL (x :: r) = plnT x :: plnL r := by rw [plnL]
                rw [hpl2, List.nil_append]
                show Out.ok (jList (plnT x :: plnL r)) _ = _
                congr 1
                simp
                omega
            · rw [if_neg k4] at hs
              by_cases k5 : k = 5
              · rw [if_pos k5] at hs
                simp only [Bool.and_eq_true, decide_eq_true_eq] at hs
                obtain ⟨hs1, hs2⟩ := hs
                have hp : pr G (.mk k b i t l ns vs) = 123 :: (prF G true ns vs ++ [125]) := by unfold pr; rw [if_neg k0, if_neg k1, if_neg k2, if_neg k3, if_neg k4]
                have hq : plnT (.mk k b i t l ns vs) = jObj (ns, plnL vs) := by unfold plnT jObj; rw [if_neg k1, if_neg k2, if_neg k3, if_neg k4, if_pos k5, k5]
                obtain ⟨e, rfl⟩ : ∃ e, d = e + 1 := ⟨d - 1, by omega⟩
                rw [less_nat] at hs1
                have hall : ∀ x ∈ vs, Reads1 s G e x := fun x hx => value_read hG e x (snd_eachF [] ns vs hlen.2.1 hs1 x hx) (len_each hlen.2.2 x hx)
                rw [hp] at h ⊢
                rw [hq]
                have h0 : pk s p = 123 := h.head.2.2.1
                have h1 := h.head.2.2.2
                have hv : valueTo s (e + 1) p = (eachTo s 125 (objStep s (valueTo s e)) p ([], [])).map jObj := by
                  conv => lhs; unfold valueTo
                  rw [if_neg (by omega), if_neg (by omega), if_neg (by omega), if_neg (by rw [h0]; decide), if_neg (by omega), if_neg (by omega)]
                  show (if pk s p = 91 then _ else _) = _
                  rw [if_neg (by omega)]
                rw [hv]
                cases ns with
                | nil =>
                  have hv0 : vs = [] := List.eq_nil_of_length_eq_zero hlen.2.1.symm
                  subst hv0
                  have hpl : prF G true [] [] = [] := by unfold prF; rfl
                  rw [hpl, List.nil_append] at h1 ⊢
                  have hsk : skipTo s (p + 1) = p + 1 := skip_at (G := []) (L := []) (fun c hc => by cases hc) h1 (by decide)
                  have h2 : pk s (p + 1) = 125 := h1.head.2.2.1
                  unfold eachTo
                  rw [hsk, if_pos h2]
                  have hpl2 : plnL [] = [] := by unfold plnL; rfl
                  rw [hpl2]; rfl
                | cons nm ns' =>
                  cases vs with
                  | nil => simp at hlen
                  | cons x vs' =>
                    have hpl : prF G true (nm :: ns') (x :: vs') = G ++ (quo nm ++ (G ++ (58 :: (G ++ (pr G x ++ (G ++ prF G false ns' vs')))))) := by rw [prF]; rfl
                    rw [hpl] at h1 ⊢
                    simp only [List.append_assoc, List.cons_append] at h1 ⊢
                    have h46 := h1
                    unfold quo at h46
                    rw [List.cons_append] at h46
                    have hsk := skip_at hG h46 (by decide)
                    have hpk : pk s (p + 1 + G.length) = 34 := h46.right.head.2.2.1
                    unfold eachTo
                    rw [hsk, hpk, if_neg (by decide), obj_read hG ns' vs' nm x [] [] (s.size + 1) (p + 1 + G.length) R (by simpa using hlen.2.1) (hall x (by simp)) (fun y hy => hall y (by simp [hy])) hs1 h1.right (by omega)]
                    have hpl2 : plnL (x :: vs') = plnT x :: plnL vs' := by rw [plnL]
                    rw [hpl2, List.nil_append, List.nil_append]
                    show Out.ok (jObj (nm :: ns', plnT x :: plnL vs')) _ = _
                    congr 1
                    simp
                    omega
              · rw [if_neg k5] at hs
                cases hs
termination_by d t => (d, SizeOf.sizeOf t)
/-- A whole text that tells a sound value, blanks ahead and behind. -/
theorem parse_read {s : ByteArray} {G : List UInt8} (hG : Blanks G) {t : JT} (hs : sndT t 32 = true) (hl : LenT t) (h : s.data.toList = G ++ (pr G t ++ G)) : ∃ k, parseTo s = .ok (plnT t) k := by
  have h0 : LAt s 0 (G ++ (pr G t ++ G)) [] := by unfold LAt; simpa using h
  obtain ⟨c, r, hc, hc1, _, _⟩ := pr_head G t
  have h46 := h0
  rw [hc, List.cons_append] at h46
  have hsk := skip_at hG h46 hc1
  have h1 := h0.right
  have hnd : NoDig (G ++ []) := by
    intro x r hx
    cases G with
    | nil => cases hx
    | cons g G' =>
      injection hx with h1 _
      have := hG g (by simp)
      rw [← h1]
      unfold blankI at this
      unfold digI
      simp at this ⊢
      omega
  have hv := value_read (s := s) hG 32 t hs hl (0 + G.length) _ h1.left hnd
  have hsz : s.size = G.length + ((pr G t).length + G.length) := by
    have := congrArg List.length h
    simpa using this
  have hend : skipTo s (0 + G.length + (pr G t).length) = s.size := by
    rw [skip_blanks G _ _ hG h1.right]
    rw [show 0 + G.length + (pr G t).length + G.length = s.size by omega]
    exact overTo_stop (by rw [pk_end (Nat.le_refl _)]; rfl)
  refine ⟨skipTo s (0 + G.length + (pr G t).length), ?_⟩
  unfold parseTo
  rw [hsk, hv]
  show (if skipTo s (0 + G.length + (pr G t).length) < s.size then _ else _) = _
  rw [if_neg (by rw [hend]; omega)]
end Go.Proofs.YtnjhmnolngdfaaaGreatDoor
