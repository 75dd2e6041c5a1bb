/- Notes, plainly: which signs stand where. -/
import Derived.Test.YtekgjjanikicnaaDoorNt4
namespace Go.Proofs.YtekgjjanikicnaaDoor.Sx
open Go Go.RowKit
set_option linter.unusedSimpArgs false
set_option linter.unusedVariables false
theorem dec_digit : ∀ (n u : Nat), u ≤ n → ∀ c ∈ Lib.decDigits u, 48 ≤ c.toNat ∧ c.toNat ≤ 57 := by
  intro n
  induction n with
  | zero =>
    intro u h c hc
    have : u = 0 := by omega
    subst this
    rw [Lib.decDigits_one (by omega)] at hc
    obtain rfl := List.mem_singleton.1 hc
    exact ⟨by decide, by decide⟩
  | succ n ih =>
    intro u h c hc
    by_cases h10 : u < 10
    · rw [Lib.decDigits_one h10] at hc
      obtain rfl := List.mem_singleton.1 hc
      have := digit_nat h10
      omega
    · have e : Lib.decDigits u = Lib.decDigits (u / 10) ++ [UInt8.ofNat (48 + u % 10)] := by conv => lhs; rw [Lib.decDigits, dif_neg h10]
      rw [e] at hc
      rcases List.mem_append.1 hc with hc | hc
      · exact ih (u / 10) (by omega) c hc
      · obtain rfl := List.mem_singleton.1 hc
        have := digit_nat (Nat.mod_lt u (show 0 < 10 by omega))
        omega
theorem dec_not {u : Nat} {c : UInt8} (h : c.toNat < 48) : c ∉ Lib.decDigits u := fun hc => by
  have := dec_digit u u (Nat.le_refl _) c hc
  omega
theorem enc_not {bs : List UInt8} {c : UInt8} (h : c.toNat < 43) : c ∉ enc bs := fun hc => by
  obtain ⟨p, k, e, _, hp⟩ := enc_form bs
  rw [e] at hc
  rcases List.mem_append.1 hc with hc | hc
  · have := hp c hc
    simp only [plainSign, Bool.or_eq_true, Bool.and_eq_true, decide_eq_true_eq, beq_iff_eq] at this
    omega
  · have := List.eq_of_mem_replicate hc
    subst this
    simp at h
theorem name_not {l : List UInt8} (h : nameOk l = true) {c : UInt8} (hc : c.toNat < 45) : c ∉ l := fun hm => by
  simp only [nameOk, Bool.and_eq_true] at h
  have := List.all_eq_true.1 h.1 c hm
  simp only [nameSign, Bool.or_eq_true, Bool.and_eq_true, decide_eq_true_eq, beq_iff_eq] at this
  omega
theorem count_no {l : List UInt8} {c : UInt8} (h : c ∉ l) : l.count c = 0 := List.count_eq_zero.2 h
theorem text_count {d : Hd} (h : d.ok = true) : d.text.count 10 = 3 := by
  unfold Hd.ok at h
  rw [Bool.and_eq_true] at h
  simp only [Hd.text, List.count_append, count_no (name_not h.1 (c := 10) (by decide)), count_no (dec_not (u := d.size.toNat) (c := 10) (by decide)), count_no (enc_not (bs := d.root) (c := 10) (by decide))]
  rfl
theorem kind_ne {s : Sg} (h : s.ok = true) {c : UInt8} (hc : c.toNat < 100) : s.kind ≠ c := fun e => by
  obtain ⟨_, h2, _⟩ := Sg.ok_iff.1 h
  rw [e] at h2
  omega
theorem line_count {s : Sg} (h : s.ok = true) : s.line.count 10 = 1 := by
  obtain ⟨h1, h2, _⟩ := Sg.ok_iff.1 h
  have hk : [s.kind].count 10 = 0 := count_no (fun hm => kind_ne h (c := 10) (by decide) (List.mem_singleton.1 hm).symm)
  simp only [Sg.line, List.count_append, count_no (name_not h1 (c := 10) (by decide)), count_no (dec_not (u := s.num) (c := 10) (by decide)), count_no (enc_not (bs := s.bs) (c := 10) (by decide)), hk]
  rfl
theorem lines_count : ∀ {l : List Sg}, (∀ s ∈ l, s.ok = true) → (l.flatMap Sg.line).count 10 = l.length
  | [], _ => rfl
  | x :: r, h => by
    rw [List.flatMap_cons, List.count_append, line_count (h x (List.mem_cons_self ..)), lines_count fun s hs => h s (List.mem_cons_of_mem _ hs), List.length_cons]
    omega
theorem note_count {d : Hd} {l : List Sg} (h : d.ok = true) (hl : ∀ s ∈ l, s.ok = true) : (noteL d l).count 10 = 4 + l.length := by
  simp only [noteL, List.count_append, text_count h, lines_count hl]
  have : [(10 : UInt8)].count 10 = 1 := rfl
  omega
end Go.Proofs.YtekgjjanikicnaaDoor.Sx
