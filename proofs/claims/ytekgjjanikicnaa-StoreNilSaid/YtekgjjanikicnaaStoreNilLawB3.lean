/- Lemmas of this proof, part 3: 4 texts joined. -/
import Derived.Test.YtekgjjanikicnaaStoreNilLawB2
import Derived.Test.YtekgjjanikicnaaStoreNilLawB1
namespace Go.Proofs.Ytekgjjanikicnaa.Sx
open Go
set_option maxRecDepth 100000
set_option linter.unusedSimpArgs false
set_option linter.unusedVariables false
theorem tSTakesR (fx : List Fact) (A : Option Addr) (n cap : Nat) (hn : n < 1000000000000) : Tri Try.prog 53 [.v (.slice A n cap)] [] 0 fx (Ret 0 (.v (.int .i64 (takesN n : Nat))) [] 0 []) := by
  refine Tri.of_code tok Try.func53 rfl rfl rfl (by decide) rfl (Nat.le_of_ble_eq_true rfl) ?_
  conv => whnf
  repeat' ((first | refine w1 (h := ?_) | refine w2 ?_ ?_ | refine w3 (h := ?_) | refine w4 (h := ?_) | refine hD _ _ ?_ | refine hL _ _ ?_ | (intro h; (try simp only [n1, n2, n3, n4, n5, n6] at h); first | (exfalso; omega) | (cases h; done) | skip)) <;> (conv => whnf))
  refine Ret.noneS rfl (fun _ _ => ?_) (fun _ h => nomatch h)
  simp only [den, takesN]
  congr 1
theorem tSame15 (fx : List Fact) (A B : Option Addr) (ca cb : Nat) (a b : List BsV) (hA : PartsAt fx A a) (hB : PartsAt fx B b) (hl : a.length < 1000000) (hs : ∀ o ∈ a, o.bs.length < 1000000) :
    Tri Try.prog 49 [.v (.slice A a.length ca), .v (.slice B b.length cb)] [] 0 fx (RetE (α := Unit) 0 (fun _ => True) (fun _ => .v (.bool (decide (a.map BsV.bs = b.map BsV.bs)))) (fun _ => []) 0 (fun _ => [])) := by
  refine Tri.one ?_
  refine Tri.of_code tok Try.func49 rfl rfl rfl (by decide) rfl (Nat.le_of_ble_eq_true rfl) ?_
  conv => whnf
  repeat' ((first | refine w1 (h := ?_) | refine w2 ?_ ?_ | refine w3 (h := ?_) | refine w4 (h := ?_) | refine hD _ _ ?_ | refine hL _ _ ?_ | (intro h; (try simp only [n1, n2, n3, n4, n5, n6] at h); first | (exfalso; omega) | (cases h; done) | skip)) <;> (conv => whnf))
  · refine Ret.noneS rfl (fun ρ _ => ?_) (fun _ h => nomatch h)
    have hne : a.map BsV.bs ≠ b.map BsV.bs := fun e => by
      have := congrArg List.length e
      rw [List.length_map, List.length_map] at this
      omega
    simp [den, hne]
  have hlen : a.length = b.length := by omega
  refine loop_by tok (α := Nat) (fun i => ⟨[(0, .v (.slice A a.length ca)), (1, .v (.slice B b.length cb)), (5, .v (.int .i64 (i : Int)))], [], 0, fx⟩) (fun i => i ≤ a.length ∧ (a.take i).map BsV.bs = (b.take i).map BsV.bs) (fun i => a.length - i) 0 [] ⟨Nat.zero_le _, rfl⟩ ⟨rfl, ⟨(fun _ _ _ => rfl), (fun _ _ _ => rfl), (fun _ _ _ => rfl), trivial⟩, trivial, fun f hf => hf⟩ ?_
  rintro i ⟨hi, he⟩
  conv => whnf
  repeat' ((first | refine w1 (h := ?_) | refine w2 ?_ ?_ | refine w3 (h := ?_) | refine w4 (h := ?_) | refine hD _ _ ?_ | refine hL _ _ ?_ | (intro h; (try simp only [n1, n2, n3, n4, n5, n6] at h); first | (exfalso; omega) | (cases h; done) | skip)) <;> (conv => whnf))
  · have h1 : i < a.length := by omega
    have h2 : i < b.length := by omega
    obtain ⟨ad, rfl, hfa, hca⟩ := hA.get h1
    obtain ⟨bd, rfl, hfb, hcb⟩ := hB.get h2
    refine draw_opaque fun KD hD => ?_
    refine draw_new tok (by kernel_rfl) [.any 0, .any 1, .any 2, .any 4, .any 5, .any 6, .load 3, .one 7, .one 8, .any 9] [] ([]) (by kernel_rfl) rfl (rfl) (by repeat' (first | exact trivial | refine And.intro rfl ?_)) ?_
    conv => whnf
    repeat' ((first | (refine Exists.intro _ (And.intro hca ?_)) | (refine Exists.intro _ (And.intro hcb ?_)) | refine w1 (h := ?_) | refine w2 ?_ ?_ | refine w3 (h := ?_) | refine w4 (h := ?_) | refine hD _ _ ?_ | refine hL _ _ ?_ | (intro h; (try simp only [n1, n2, n3, n4, n5, n6] at h); first | (exfalso; omega) | (cases h; done) | skip)) <;> (conv => whnf))
    have ts := tSame fx a[i].B b[i].B a[i].cap b[i].cap a[i].bs b[i].bs hfa.b hfb.b (by have := hs _ (List.getElem_mem h1); omega)
    refine Tri.use ts.one [] rfl (fun _ _ _ => rfl) trivial (fun f hf => hf) fun u hu => ?_
    conv => whnf
    repeat' ((first | refine w1 (h := ?_) | refine w2 ?_ ?_ | refine w3 (h := ?_) | refine w4 (h := ?_) | refine hD _ _ ?_ | refine hL _ _ ?_ | (intro h; (try simp only [n1, n2, n3, n4, n5, n6] at h); first | (exfalso; omega) | (cases h; done) | skip)) <;> (conv => whnf))
    · refine Ret.noneS rfl (fun ρ _ => ?_) (fun _ h => nomatch h)
      have hne : a.map BsV.bs ≠ b.map BsV.bs := fun e => by
        have := congrArg (fun l => l[i]?) e
        simp only [List.getElem?_map, List.getElem?_eq_getElem h1, List.getElem?_eq_getElem h2, Option.map_some, Option.some.injEq] at this
        exact h this
      simp [den, hne]
    · refine ⟨i + 1, [], ⟨⟨by omega, ?_⟩, by omega⟩, rfl, ⟨(fun _ _ _ => rfl), (fun _ _ _ => rfl), (fun _ _ _ => rfl), trivial⟩, trivial, fun f hf => hf⟩
      have heq : a[i].bs = b[i].bs := by first | exact h | exact Decidable.of_not_not h
      rw [List.take_succ_eq_append_getElem h1, List.take_succ_eq_append_getElem h2, List.map_append, List.map_append, he]
      simp [heq]
  · refine Ret.noneS rfl (fun ρ _ => ?_) (fun _ h => nomatch h)
    obtain rfl : i = a.length := by omega
    have hab : a.map BsV.bs = b.map BsV.bs := by
      rw [List.take_length, hlen, List.take_length] at he
      exact he
    simp [den, hab]
/-- A row of slices that grows by appending, as it is told. -/
structure GrI where
  l : List BsV
  row : RowI
  gs : List Fact
structure GrI.Pr (fx : List Fact) (x : GrI) : Prop where
  row : x.row.Ok x.l
  fit : ∀ b ∈ x.l, b.Fit (x.gs ++ fx)
/-- What a list of slices is handed back as. -/
structure KpR where
  A : Option Addr
  l : List BsV
  cap : Nat
  f : List Fact
theorem tSKeptRaw (fx : List Fact) (D : Nat) (s : StS) (hk : s.kept.length ≤ 100000) (hf : ∀ b ∈ s.kept, b.Fit fx) (hb : ∀ b ∈ s.kept, b.bs.length ≤ 1000000) :
    Tri Try.prog 50 [.p 0 0] [(0, .abs (stoA D s))] 1 fx
      (RetE (α := GrI) 1 (fun x => x.Pr fx ∧ x.l.map BsV.bs = s.kept.map BsV.bs) (fun x => x.row.sv 1 x.l.length) (fun x => (0, .abs (stoA D s)) :: x.row.hp 1) 2 (fun x => x.gs)) := by
  refine Tri.of_code tok Try.func50 rfl rfl rfl (by decide) rfl (Nat.le_of_ble_eq_true rfl) ?_
  conv => whnf
  repeat' ((first | refine w1 (h := ?_) | refine w2 ?_ ?_ | refine w3 (h := ?_) | refine w4 (h := ?_) | refine hD _ _ ?_ | refine hL _ _ ?_ | (intro h; (try simp only [n1, n2, n3, n4, n5, n6] at h); first | (exfalso; omega) | (cases h; done) | skip)) <;> (conv => whnf))
  refine loop_by tok (α := GrI) (fun x => match x with
    | ⟨l, .no, gs⟩ => ⟨[(0, .p 0 0), (3, .v (.slice none 0 0)), (4, .v (.int .i64 ((l.length : Nat) : Int)))], [(0, .abs (stoA D s))], 2, gs ++ fx⟩
    | ⟨l, .row xs, gs⟩ => ⟨[(0, .p 0 0), (3, .s 1 0 l.length xs.length), (4, .v (.int .i64 ((l.length : Nat) : Int)))], [(0, .abs (stoA D s)), (1, .row xs 22)], 2, gs ++ fx⟩)
    (fun x => x.Pr fx ∧ x.l.length ≤ s.kept.length ∧ x.l.map BsV.bs = (s.kept.take x.l.length).map BsV.bs) (fun x => s.kept.length - x.l.length) ⟨[], .no, []⟩ [0] ⟨⟨rfl, fun b hb => by cases hb⟩, Nat.zero_le _, rfl⟩
    ⟨rfl, ⟨SEq.ren rfl rfl, fun _ _ _ => rfl, fun _ _ _ => rfl, trivial⟩, ⟨OSub.ren rfl rfl, trivial⟩, fun f hf => hf⟩ ?_
  rintro ⟨l, row, gs⟩ ⟨⟨hrow, hfit⟩, hl, he⟩
  simp only at hrow hfit hl he
  rcases row with _ | xs
  · have hfm : ∀ b ∈ s.kept, b.Fit (gs ++ fx) := fun b hb => (hf b hb).mono fun f hf => List.mem_append_right _ hf
    conv => whnf
    repeat' ((first | refine w1 (h := ?_) | refine w2 ?_ ?_ | refine w3 (h := ?_) | refine w4 (h := ?_) | refine hD _ _ ?_ | refine hL _ _ ?_ | (intro h; (try simp only [n1, n2, n3, n4, n5, n6] at h); first | (exfalso; omega) | (cases h; done) | skip)) <;> (conv => whnf))
    refine Tri.use (tSLen (gs ++ fx) D s) [0] rfl (args_ren rfl rfl) ⟨OSub.ren rfl rfl, trivial⟩ (fun f hf => by first | exact hf | cases hf | simp_all) (fun u hu => ?_)
    conv => whnf
    repeat' ((first | refine w1 (h := ?_) | refine w2 ?_ ?_ | refine w3 (h := ?_) | refine w4 (h := ?_) | refine hD _ _ ?_ | refine hL _ _ ?_ | (intro h; (try simp only [n1, n2, n3, n4, n5, n6] at h); first | (exfalso; omega) | (cases h; done) | skip)) <;> (conv => whnf))
    · have hlt : l.length < s.kept.length := by omega
      refine Tri.use (tSEntry (gs ++ fx) D s l.length hlt (by omega) (hfm _ (List.getElem_mem hlt)) (by have := hb _ (List.getElem_mem hlt); omega)) [0] rfl (args_ren rfl rfl) ⟨OSub.ren rfl rfl, trivial⟩ (fun f hf => hf) fun u hu => ?_
      obtain ⟨hob, hof⟩ := hu
      generalize u.1 = o at *
      generalize u.2 = f2 at *
      conv => whnf
      refine appFK_go ?_
      conv => whnf
      repeat' ((first | refine w1 (h := ?_) | refine w2 ?_ ?_ | refine w3 (h := ?_) | refine w4 (h := ?_) | refine hD _ _ ?_ | refine hL _ _ ?_ | (intro h; (try simp only [n1, n2, n3, n4, n5, n6] at h); first | (exfalso; omega) | (cases h; done) | skip)) <;> (conv => whnf))
      rename_i m0 sp0
      have hl0 : l = [] := hrow
      have hl1 : l.length = 0 := by rw [hl0]; rfl
      have hrl : ([o.v] ++ sp0).length = l.length + 1 + m0 := by rw [List.length_append, h, Nat.mul_one, hl1]; rfl
      have hrow2 : RowI.Ok (l ++ [o]) (.row ([o.v] ++ sp0)) := by rw [hl0]; exact ⟨rfl, by simp⟩
      have hll : (l ++ [o]).length = l.length + 1 := by simp
      refine ⟨⟨l ++ [o], .row _, f2 ++ gs⟩, [0, 3], ⟨⟨⟨hrow2, fun b hb => ?_⟩, by simp only [hll]; omega, ?_⟩, by simp only [hll]; omega⟩, rfl, ⟨SEq.ren rfl rfl, SEq.ren rfl ?_, SEq.eq ?_, trivial⟩, ⟨OSub.ren rfl rfl, OSub.ren rfl rfl, trivial⟩, fun f hf => by simpa using hf⟩
      · show b.Fit ((f2 ++ gs) ++ fx)
        rw [List.append_assoc]
        rcases List.mem_append.1 hb with hb | hb
        · exact (hfit b hb).mono fun f hf => List.mem_append_right _ hf
        · rw [List.mem_singleton.1 hb]; exact hof
      · simp only [hll]
        rw [List.take_succ_eq_append_getElem hlt, List.map_append, List.map_append, he]
        simp [hob]
      · simp only [ren, sg]
        rw [hll, hrl]
        rw [hl1]
        rfl
      · simp only [hll]; congr 1
    · have hll : l.length = s.kept.length := by omega
      have he2 : l.map BsV.bs = s.kept.map BsV.bs := by rw [he, hll, List.take_length]
      exact ⟨⟨l, .no, gs⟩, ⟨⟨hrow, hfit⟩, he2⟩, Ret.mk [0, 1] [(0, .abs (stoA D s))] (Fold.drop1 (by repeat first | exact List.mem_cons_self .. | apply List.mem_cons_of_mem)) rfl (SEq.ren rfl rfl) ⟨OSub.ren rfl rfl, trivial⟩ (fun g hg => List.mem_append_left _ hg)⟩
  · have hfm : ∀ b ∈ s.kept, b.Fit (gs ++ fx) := fun b hb => (hf b hb).mono fun f hf => List.mem_append_right _ hf
    conv => whnf
    repeat' ((first | refine w1 (h := ?_) | refine w2 ?_ ?_ | refine w3 (h := ?_) | refine w4 (h := ?_) | refine hD _ _ ?_ | refine hL _ _ ?_ | (intro h; (try simp only [n1, n2, n3, n4, n5, n6] at h); first | (exfalso; omega) | (cases h; done) | skip)) <;> (conv => whnf))
    refine Tri.use (tSLen (gs ++ fx) D s) [0] rfl (args_ren rfl rfl) ⟨OSub.ren rfl rfl, trivial⟩ (fun f hf => by first | exact hf | cases hf | simp_all) (fun u hu => ?_)
    conv => whnf
    repeat' ((first | refine w1 (h := ?_) | refine w2 ?_ ?_ | refine w3 (h := ?_) | refine w4 (h := ?_) | refine hD _ _ ?_ | refine hL _ _ ?_ | (intro h; (try simp only [n1, n2, n3, n4, n5, n6] at h); first | (exfalso; omega) | (cases h; done) | skip)) <;> (conv => whnf))
    · have hlt : l.length < s.kept.length := by omega
      refine Tri.use (tSEntry (gs ++ fx) D s l.length hlt (by omega) (hfm _ (List.getElem_mem hlt)) (by have := hb _ (List.getElem_mem hlt); omega)) [0] rfl (args_ren rfl rfl) ⟨OSub.ren rfl rfl, trivial⟩ (fun f hf => hf) fun u hu => ?_
      obtain ⟨hob, hof⟩ := hu
      generalize u.1 = o at *
      generalize u.2 = f2 at *
      conv => whnf
      refine appFK_go ?_
      conv => whnf
      repeat' ((first | refine w1 (h := ?_) | refine w2 ?_ ?_ | refine w3 (h := ?_) | refine w4 (h := ?_) | refine hD _ _ ?_ | refine hL _ _ ?_ | (intro h; (try simp only [n1, n2, n3, n4, n5, n6] at h); first | (exfalso; omega) | (cases h; done) | skip)) <;> (conv => whnf))
      obtain ⟨hx1, hx2⟩ := hrow
      refine And.intro ⟨by omega, hx2, by omega, fun u hu => by rw [List.mem_singleton.1 hu]; rfl⟩ ?_
      intro m0 sp0 hsp0
      conv => whnf
      repeat' ((first | refine w1 (h := ?_) | refine w2 ?_ ?_ | refine w3 (h := ?_) | refine w4 (h := ?_) | refine hD _ _ ?_ | refine hL _ _ ?_ | (intro h; (try simp only [n1, n2, n3, n4, n5, n6] at h); first | (exfalso; omega) | (cases h; done) | skip)) <;> (conv => whnf))
      have hrl : (xs.take (l.length * 1) ++ [o.v] ++ sp0).length = l.length + 1 + m0 := by simp only [List.length_append, List.length_take, List.length_singleton, hsp0, Nat.mul_one, Nat.min_eq_left hx2]
      have hrow2 : RowI.Ok (l ++ [o]) (.row (xs.take (l.length * 1) ++ [o.v] ++ sp0)) := ⟨by rw [Nat.mul_one, hx1, List.take_left' (by simp)]; simp, by rw [hrl]; simp⟩
      have hll : (l ++ [o]).length = l.length + 1 := by simp
      refine ⟨⟨l ++ [o], .row _, f2 ++ gs⟩, [0, 3], ⟨⟨⟨hrow2, fun b hb => ?_⟩, by simp only [hll]; omega, ?_⟩, by simp only [hll]; omega⟩, rfl, ⟨SEq.ren rfl rfl, SEq.ren rfl ?_, SEq.eq ?_, trivial⟩, ⟨OSub.ren rfl rfl, OSub.ren rfl rfl, trivial⟩, fun f hf => by simpa using hf⟩
      · show b.Fit ((f2 ++ gs) ++ fx)
        rw [List.append_assoc]
        rcases List.mem_append.1 hb with hb | hb
        · exact (hfit b hb).mono fun f hf => List.mem_append_right _ hf
        · rw [List.mem_singleton.1 hb]; exact hof
      · simp only [hll]
        rw [List.take_succ_eq_append_getElem hlt, List.map_append, List.map_append, he]
        simp [hob]
      · simp only [ren, sg]
        rw [hll, hrl]
        rfl
      · simp only [hll]; congr 1
    · have hll : l.length = s.kept.length := by omega
      have he2 : l.map BsV.bs = s.kept.map BsV.bs := by rw [he, hll, List.take_length]
      exact ⟨⟨l, .row xs, gs⟩, ⟨⟨hrow, hfit⟩, he2⟩, Ret.mk [0, 1] [(0, .abs (stoA D s)), (1, .row xs 22)] (Fold.drop2 (by repeat first | exact List.mem_cons_self .. | apply List.mem_cons_of_mem) (by repeat first | exact List.mem_cons_self .. | apply List.mem_cons_of_mem)) rfl (SEq.ren rfl rfl) ⟨OSub.ren rfl rfl, OSub.ren rfl rfl, trivial⟩ (fun g hg => List.mem_append_left _ hg)⟩
theorem tSKept (fx : List Fact) (D : Nat) (s : StS) (hk : s.kept.length ≤ 100000) (hf : ∀ b ∈ s.kept, b.Fit fx) (hb : ∀ b ∈ s.kept, b.bs.length ≤ 1000000) :
    Tri Try.prog 50 [.p 0 0] [(0, .abs (stoA D s))] 1 fx
      (RetE (α := KpR) 1 (fun x => PartsAt (x.f ++ fx) x.A x.l ∧ x.l.map BsV.bs = s.kept.map BsV.bs) (fun x => .v (.slice x.A x.l.length x.cap)) (fun x => [(0, .abs (stoA D s))]) 1 (fun x => x.f)) := by
  refine (tSKeptRaw fx D s hk hf hb).conv.share2 fun y h m f ⟨⟨l, row, gs⟩, ⟨⟨hrow, hfit⟩, he⟩, e1, e2, e3, e4⟩ => ?_
  subst e1 e2 e3 e4
  cases row with
  | no =>
    left
    obtain rfl : l = [] := hrow
    exact ⟨⟨none, [], 0, f⟩, ⟨⟨fun _ => rfl, fun ad e => by cases e⟩, he⟩, Ret.mk [0] [(0, .abs (stoA D s))] (Fold.drop1 (by repeat first | exact List.mem_cons_self .. | apply List.mem_cons_of_mem)) rfl (fun _ _ _ => rfl) ⟨OSub.ren rfl rfl, trivial⟩ (fun g hg => hg)⟩
  | row xs =>
    right
    obtain ⟨hx1, hx2⟩ := hrow
    refine ⟨1, xs, 22, (by repeat first | exact List.mem_cons_self .. | apply List.mem_cons_of_mem), fun b1 => ⟨.v (.slice (some ⟨b1, 0, none⟩) l.length xs.length), fun ρ hr => by subst hr; rfl, ⟨some ⟨b1, 0, none⟩, l, xs.length, rowFact b1 xs 22 :: f⟩, ⟨?_, he⟩, ?_⟩⟩
    · refine ⟨fun e => (by cases e), fun ad e i o hi => ?_⟩
      obtain rfl := Option.some.inj e
      refine ⟨(hfit o (List.mem_of_getElem? hi)).mono fun g hg => List.mem_cons_of_mem _ hg, ?_⟩
      have hli : i < l.length := (List.getElem?_eq_some_iff.1 hi).1
      have hxi : xs[i]? = some o.v := by
        have := congrArg (fun l => l[i]?) hx1
        simp only [List.getElem?_map, hi, Option.map_some] at this
        rwa [List.getElem?_take_of_lt hli] at this
      have := rowFact_FC (b := b1) (fx := rowFact b1 xs 22 :: (f ++ fx)) (List.mem_cons_self ..) hxi
      rwa [add_at, Nat.zero_add]
    · exact Ret.mk [0] [(0, .abs (stoA D s))] (Fold.drop1 (by repeat first | exact List.mem_cons_self .. | apply List.mem_cons_of_mem)) rfl (fun _ _ _ => rfl) ⟨OSub.ren rfl rfl, trivial⟩ (fun g hg => hg)
end Go.Proofs.Ytekgjjanikicnaa.Sx

namespace Go.Proofs.Ytekgjjanikicnaa.Sx
open Go
set_option maxRecDepth 100000
set_option linter.unusedSimpArgs false
set_option linter.unusedVariables false
/-- What an append hands back: the entry, as it waits; nothing, if a write failed. -/
structure AppR where
  o : Option BsV
  f : List Fact
def AppR.Ok (e : Int) (b : List UInt8) (x : AppR) : Prop := match x.o with
  | none => e ≠ 0
  | some o => e = 0 ∧ o.bs = b ∧ o.Fit x.f
def AppR.sto (s : StS) (e : Int) (n : Nat) (x : AppR) : StS := match x.o with
  | none => { s with over := decide (e = 6) }
  | some o => { s with wait := s.wait ++ [o], next := s.next + n }
theorem entB_put (b : List UInt8) : entB b = putB b.length 2 ++ b ++ List.replicate (64 * takesN b.length - 2 - b.length) 0 := rfl
theorem entS_get {b : List UInt8} {i : Nat} (h : i < takesN b.length) : (entS b).drop i = ((entB b).drop (64 * i)).take 64 :: (entS b).drop (i + 1) := by
  have hl : i < (entS b).length := by rw [entS_length]; exact h
  rw [List.drop_eq_getElem_cons hl]
  congr 1
  simp [entS]
theorem entS_end {b : List UInt8} : (entS b).drop (takesN b.length) = [] := List.drop_of_length_le (by rw [entS_length]; exact Nat.le_refl _)
set_option maxHeartbeats 4000000 in
theorem tSAppG0 (fx : List Fact) (D : Nat) (d : DS) (hd : d.Ok) (kept wait : List BsV) (used next : Nat) (hK : RowI.Ok kept .no) (hW : RowI.Ok wait .no) (A : Option Addr) (cap : Nat) (b : List UInt8) (hB : BytesAt fx A b) (hb : b.length ≤ 200) (hroom : next + takesN b.length + 3 ≤ d.l.length) (hw : wait.length ≤ 100000) :
    Tri Try.prog 52 [.p 1 0, .v (.slice A b.length cap)] [(1, .cells [.v (ptrV D), .v (.slice none 0 0), .v (.slice none 0 0), .v (.int .i64 used), .v (.int .i64 next), .v (.bool false)] 115), pdk 0 D d] 4 fx
      (RetE (α := AppR) 2 (fun x => x.Ok (d.wrN ((3 + next : Nat) : Int) (entS b)).1 b) (fun x => .v (.int .i64 (d.wrN ((3 + next : Nat) : Int) (entS b)).1))
        (fun x => [pdk 0 D (d.wrN ((3 + next : Nat) : Int) (entS b)).2, (1, .abs (stoA D (x.sto ⟨kept, wait, used, next, false⟩ (d.wrN ((3 + next : Nat) : Int) (entS b)).1 (takesN b.length))))]) 2 (fun x => x.f)) := by
  have hlen := hd.len
  have htk : takesN b.length ≤ 4 := by unfold takesN; omega
  have htp := takesN_pos b.length
  have htg := takesN_ge b.length
  have hel := entB_length b
  obtain ⟨n, hn⟩ : ∃ n, 64 * takesN b.length = 2 + b.length + n := ⟨64 * takesN b.length - 2 - b.length, by omega⟩
  have hn2 : ((takesN b.length : Int) * 64 - 2 - (b.length : Int)).toNat = n := by omega
  have hent : putB b.length 2 ++ b ++ List.replicate n 0 = entB b := by
    rw [entB_put, show 64 * takesN b.length - 2 - b.length = n by omega]
  have tcat := tCat3F fx A cap b (putB b.length 2) hB n (64 * takesN b.length) (putB_length _ _) (by omega) (by omega)
  rw [hent] at tcat
  refine Tri.of_code tok Try.func52 rfl rfl rfl (by decide) rfl (Nat.le_of_ble_eq_true rfl) ?_
  conv => whnf
  repeat' ((first | refine w1 (h := ?_) | refine w2 ?_ ?_ | refine w3 (h := ?_) | refine w4 (h := ?_) | refine hD _ _ ?_ | refine hL _ _ ?_ | (intro h; (try simp only [n1, n2, n3, n4, n5, n6] at h); first | (exfalso; omega) | (cases h; done) | skip)) <;> (conv => whnf))
  refine Tri.use ((tSTakes fx b.length (by omega)).one) [] rfl (fun _ _ _ => rfl) trivial (fun f hf => by first | exact hf | cases hf) (fun u hu => ?_)
  conv => whnf
  repeat' ((first | refine w1 (h := ?_) | refine w2 ?_ ?_ | refine w3 (h := ?_) | refine w4 (h := ?_) | refine hD _ _ ?_ | refine hL _ _ ?_ | (intro h; (try simp only [n1, n2, n3, n4, n5, n6] at h); first | (exfalso; omega) | (cases h; done) | skip)) <;> (conv => whnf))
  refine Tri.of_code tok Try.func51 rfl rfl rfl (by decide) rfl (Nat.le_of_ble_eq_true rfl) ?_
  conv => whnf
  repeat' ((first | refine w1 (h := ?_) | refine w2 ?_ ?_ | refine w3 (h := ?_) | refine w4 (h := ?_) | refine hD _ _ ?_ | refine hL _ _ ?_ | (intro h; (try simp only [n1, n2, n3, n4, n5, n6] at h); first | (exfalso; omega) | (cases h; done) | skip)) <;> (conv => whnf))
  refine draw_opaque fun KD hD => ?_
  refine draw_solid tok (by kernel_rfl) [.any 0, .any 1, .any 2, .any 6, .any 7, .any 8, .load 3, .load 9, .one 4, .any 5, .any 10, .any 11] [] (by kernel_rfl) rfl rfl (by repeat' (first | exact trivial | refine And.intro rfl ?_)) ?_
  conv => whnf
  repeat' ((first | refine w1 (h := ?_) | refine w2 ?_ ?_ | refine w3 (h := ?_) | refine w4 (h := ?_) | refine hD _ _ ?_ | refine hL _ _ ?_ | (intro h; (try simp only [n1, n2, n3, n4, n5, n6] at h); first | (exfalso; omega) | (cases h; done) | skip)) <;> (conv => whnf))
  refine Tri.use (pSize fx D d) [0] rfl (args_ren rfl rfl) ⟨OSub.ren rfl rfl, trivial⟩ (fun f hf => by first | exact hf | cases hf | simp_all) (fun u hu => ?_)
  conv => whnf
  repeat' ((first | refine w1 (h := ?_) | refine w2 ?_ ?_ | refine w3 (h := ?_) | refine w4 (h := ?_) | refine hD _ _ ?_ | refine hL _ _ ?_ | (intro h; (try simp only [n1, n2, n3, n4, n5, n6] at h); first | (exfalso; omega) | (cases h; done) | skip)) <;> (conv => whnf))
  refine Tri.use ((tSTakes fx b.length (by omega)).one) [] rfl (fun _ _ _ => rfl) trivial (fun f hf => by first | exact hf | cases hf) (fun u hu => ?_)
  conv => whnf
  repeat' ((first | refine w1 (h := ?_) | refine w2 ?_ ?_ | refine w3 (h := ?_) | refine w4 (h := ?_) | refine hD _ _ ?_ | refine hL _ _ ?_ | (intro h; (try simp only [n1, n2, n3, n4, n5, n6] at h); first | (exfalso; omega) | (cases h; done) | skip)) <;> (conv => whnf))
  refine draw_join (α := Nat × List Value) (fun x => ⟨[(0, .p 1 0), (1, .v (.slice A b.length cap)), (5, .v (.int .i64 (takesN b.length : Nat))), (6, .v (.slice (some ⟨x.1, 0, none⟩) (64 * takesN b.length) x.2.length))], [pdk 0 D d, (1, .cells [.v (ptrV D), .v (.slice none 0 0), .v (.slice none 0 0), .v (.int .i64 used), .v (.int .i64 next), .v (.bool false)] 115)], 4, rowFact x.1 x.2 5 :: fx⟩)
    (fun x => x.2.take (64 * takesN b.length) = (entB b).map bv ∧ 64 * takesN b.length ≤ x.2.length) (fun KJ hJ => ?_) ?_
  · refine draw_tree tok (by kernel_rfl) (.step (.any 0) <| .step (.any 1) <| .step (.any 3) <| .step (.any 4) <| .step (.any 5) <| .step (.any 6) <| .step (.any 7) <| .step (.any 8) <| .step (.any 9) <| .two 2 (.step (.one 10) <| .step (.one 11) <| .step (.one 12) <| .step (.any 13) .done) 10 (.step (.one 2) <| .step (.one 11) <| .step (.one 12) <| .step (.any 13) .done)) [] [] (by kernel_rfl) rfl rfl trivial ?_
    conv => whnf
    repeat' ((first | refine w1 (h := ?_) | refine w2 ?_ ?_ | refine w3 (h := ?_) | refine w4 (h := ?_) | refine hD _ _ ?_ | refine hL _ _ ?_ | (intro h; (try simp only [n1, n2, n3, n4, n5, n6] at h); first | (exfalso; omega) | (cases h; done) | skip)) <;> (conv => whnf))
    refine And.intro ?_ ?_
    all_goals
      conv => whnf
      repeat' ((first | refine w1 (h := ?_) | refine w2 ?_ ?_ | refine w3 (h := ?_) | refine w4 (h := ?_) | refine hD _ _ ?_ | refine hL _ _ ?_ | (intro h; (try simp only [n1, n2, n3, n4, n5, n6] at h); first | (exfalso; omega) | (cases h; done) | skip)) <;> (conv => whnf))
      try rw [hn2]
      refine Tri.use (tSPut fx b.length 2 (by omega) (by omega) (by omega)) [] rfl (args_ren rfl rfl) trivial (fun f hf => by first | exact hf | cases hf | simp_all) (fun u hu => ?_)
      conv => whnf
      repeat' ((first | refine w1 (h := ?_) | refine w2 ?_ ?_ | refine w3 (h := ?_) | refine w4 (h := ?_) | refine hD _ _ ?_ | refine hL _ _ ?_ | (intro h; (try simp only [n1, n2, n3, n4, n5, n6] at h); first | (exfalso; omega) | (cases h; done) | skip)) <;> (conv => whnf))
      try rw [hn2]
      first
        | refine Tri.use tcat [6, 4, 5] rfl (args_ren rfl rfl) ⟨OSub.ren rfl rfl, OSub.ren rfl rfl, OSub.ren rfl rfl, trivial⟩ (fun f hf => hf) (fun u hu => ?_)
        | refine Tri.use tcat [6, 5, 4] rfl (args_ren rfl rfl) ⟨OSub.ren rfl rfl, OSub.ren rfl rfl, OSub.ren rfl rfl, trivial⟩ (fun f hf => hf) (fun u hu => ?_)
      conv => whnf
      repeat' ((first | refine w1 (h := ?_) | refine w2 ?_ ?_ | refine w3 (h := ?_) | refine w4 (h := ?_) | refine hD _ _ ?_ | refine hL _ _ ?_ | (intro h; (try simp only [n1, n2, n3, n4, n5, n6] at h); first | (exfalso; omega) | (cases h; done) | skip)) <;> (conv => whnf))
      exact hJ _ u [0, 1, 2, 3] hu ⟨rfl, ⟨SEq.ren rfl rfl, fun _ _ _ => rfl, fun _ _ _ => rfl, fun _ _ _ => rfl, trivial⟩, ⟨OSub.ren rfl rfl, OSub.ren rfl rfl, trivial⟩, fun f hf => hf⟩
  rintro ⟨b1, XS⟩ ⟨hX1, hX2⟩
  simp only at hX1 hX2
  have hXb : ∀ i, i < takesN b.length → BytesAt (rowFact b1 XS 5 :: fx) (some ⟨b1, 64 * i, none⟩) (((entB b).drop (64 * i)).take 64) := fun i hi => by
    have hl : (((entB b).drop (64 * i)).take 64).length = 64 := by rw [List.length_take, List.length_drop]; omega
    refine BytesAt.row (List.mem_cons_self ..) ?_
    rw [hl, List.map_take, List.map_drop, ← hX1, List.drop_take, List.take_take, Nat.min_eq_left (by omega)]
  clear tcat
  conv => whnf
  repeat' ((first | refine w1 (h := ?_) | refine w2 ?_ ?_ | refine w3 (h := ?_) | refine w4 (h := ?_) | refine hD _ _ ?_ | refine hL _ _ ?_ | (intro h; (try simp only [n1, n2, n3, n4, n5, n6] at h); first | (exfalso; omega) | (cases h; done) | skip)) <;> (conv => whnf))
  refine loop_by tok (α := Nat × DS) (fun x => match x with | (i, e) => ⟨[(0, .p 1 0), (1, .v (.slice A b.length cap)), (5, .v (.int .i64 (takesN b.length : Nat))), (6, .v (.slice (some ⟨b1, 0, none⟩) (64 * takesN b.length) XS.length)), (45, .v (.int .i64 (takesN b.length : Nat))), (46, .v (.int .i64 (i : Int)))], [pdk 0 D e, (1, .cells [.v (ptrV D), .v (.slice none 0 0), .v (.slice none 0 0), .v (.int .i64 used), .v (.int .i64 next), .v (.bool false)] 115)], 4, rowFact b1 XS 5 :: fx⟩)
    (fun x => x.1 ≤ takesN b.length ∧ x.2.Ok ∧ x.2.l.length = d.l.length ∧ d.wrN ((3 + next : Nat) : Int) (entS b) = x.2.wrN ((3 + next + x.1 : Nat) : Int) ((entS b).drop x.1)) (fun x => takesN b.length - x.1) (0, d) [0, 1, 2, 3] ⟨Nat.zero_le _, hd, rfl, rfl⟩
    ⟨rfl, ⟨SEq.ren rfl rfl, fun _ _ _ => rfl, fun _ _ _ => rfl, fun _ _ _ => rfl, fun _ _ _ => rfl, fun _ _ _ => rfl, trivial⟩, ⟨OSub.ren rfl rfl, OSub.ren rfl rfl, trivial⟩, fun f hf => hf⟩ ?_
  rintro ⟨i, e⟩ ⟨hi, heo, hel2, hwr⟩
  simp only at hi heo hel2 hwr
  conv => whnf
  repeat' ((first | refine w1 (h := ?_) | refine w2 ?_ ?_ | refine w3 (h := ?_) | refine w4 (h := ?_) | refine hD _ _ ?_ | refine hL _ _ ?_ | (intro h; (try simp only [n1, n2, n3, n4, n5, n6] at h); first | (exfalso; omega) | (cases h; done) | skip)) <;> (conv => whnf))
  · have hi2 : i < takesN b.length := by omega
    have hl : (((entB b).drop (64 * i)).take 64).length = 64 := by rw [List.length_take, List.length_drop]; omega
    rw [entS_get hi2] at hwr
    have q3 : (i + 1) * 64 - i * 64 = 64 := by omega
    have q4 : ¬ XS.length = i * 64 := by omega
    refine draw_opaque fun KD hD => ?_
    refine draw_solid tok (by kernel_rfl) [.any 0, .any 1, .any 2, .any 4, .any 5, .any 6, .any 9, .any 11, .any 12, .any 13, .any 14, .any 15, .any 16, .any 17, .load 3, .one 7, .any 8, .any 10, .one 18, .any 19] [] (by kernel_rfl) rfl rfl (by repeat' (first | exact trivial | refine And.intro rfl ?_)) ?_
    conv => whnf
    repeat' ((first | (refine Exists.intro ((i + 1) * 64) (And.intro (by omega) ?_)) | (refine Exists.intro (i * 64) (And.intro (by omega) ?_)) | refine w1 (h := ?_) | refine w2 ?_ ?_ | refine w3 (h := ?_) | refine w4 (h := ?_) | refine hD _ _ ?_ | refine hL _ _ ?_ | (intro h; (try simp only [n1, n2, n3, n4, n5, n6] at h); first | (exfalso; omega) | (cases h; done) | skip)) <;> (conv => whnf))
    rw [q3, Option.map_some, if_neg q4, add_at, show 0 + i * 64 * 1 = 64 * i by omega]
    have tw := pWrite (rowFact b1 XS 5 :: fx) D e heo ((3 + next + i : Nat) : Int) (some ⟨b1, 64 * i, none⟩) (XS.length - i * 64) (((entB b).drop (64 * i)).take 64) (hXb i hi2)
    have hwo := heo.write ((3 + next + i : Nat) : Int) (((entB b).drop (64 * i)).take 64)
    have hwl : (e.write ((3 + next + i : Nat) : Int) (((entB b).drop (64 * i)).take 64)).2.l.length = d.l.length := by rw [write_len_eq, hel2]
    rw [hl] at tw
    rw [DS.wrN] at hwr
    refine Tri.use tw [0] rfl (args_ren rfl rfl) ⟨OSub.ren rfl rfl, trivial⟩ (fun f hf => by first | exact hf | cases hf | simp_all) (fun u hu => ?_)
    generalize e.write ((3 + next + i : Nat) : Int) (((entB b).drop (64 * i)).take 64) = ew at *
    conv => whnf
    repeat' ((first | refine w1 (h := ?_) | refine w2 ?_ ?_ | refine w3 (h := ?_) | refine w4 (h := ?_) | refine hD _ _ ?_ | refine hL _ _ ?_ | (intro h; (try simp only [n1, n2, n3, n4, n5, n6] at h); first | (exfalso; omega) | (cases h; done) | skip)) <;> (conv => whnf))
    · have hne := h
      rw [if_neg h] at hwr
      rw [hwr]
      refine Tri.of_code tok Try.func80 rfl rfl rfl (by decide) rfl (Nat.le_of_ble_eq_true rfl) ?_
      conv => whnf
      repeat' ((first | refine w1 (h := ?_) | refine w2 ?_ ?_ | refine w3 (h := ?_) | refine w4 (h := ?_) | refine hD _ _ ?_ | refine hL _ _ ?_ | (intro h; (try simp only [n1, n2, n3, n4, n5, n6] at h); first | (exfalso; omega) | (cases h; done) | skip)) <;> (conv => whnf))
      exact ⟨⟨none, []⟩, hne, sto_ret (s := ⟨kept, wait, used, next, decide (ew.1 = 6)⟩) ⟨.no, .no, hK, hW⟩ 2 3 (by decide) (by repeat first | exact List.mem_cons_self .. | apply List.mem_cons_of_mem) (by repeat first | exact List.mem_cons_self .. | apply List.mem_cons_of_mem) (fun xs e => by cases e <;> exact (by repeat first | exact List.mem_cons_self .. | apply List.mem_cons_of_mem)) (fun xs e => by cases e <;> exact (by repeat first | exact List.mem_cons_self .. | apply List.mem_cons_of_mem)) (fun ρ => rfl) rfl (SEq.ren rfl rfl) (fun _ h => nomatch h)⟩
    · rw [if_pos (by omega)] at hwr
      exact ⟨(i + 1, ew.2), [0, 1, 2, 3], ⟨⟨by simp only; omega, hwo, hwl, hwr⟩, by simp only; omega⟩, rfl, ⟨SEq.ren rfl rfl, fun _ _ _ => rfl, fun _ _ _ => rfl, fun _ _ _ => rfl, fun _ _ _ => rfl, SEq.eq rfl, trivial⟩, ⟨OSub.ren rfl rfl, OSub.ren rfl rfl, trivial⟩, fun f hf => hf⟩
  · have hit : i = takesN b.length := by omega
    subst hit
    rw [entS_end] at hwr
    replace hwr : d.wrN ((3 + next : Nat) : Int) (entS b) = (0, e) := hwr
    rw [hwr]
    have tc := tSClone (rowFact b1 XS 5 :: fx) A cap b (hB.mono fun f hf => List.mem_cons_of_mem _ hf) (by omega)
    refine draw_opaque fun KD hD => ?_
    refine draw_new tok (by kernel_rfl) [.any 0, .any 1, .any 2, .any 3, .any 5, .load 4, .one 6, .one 7, .one 8, .any 9, .any 10, .last 11] [11] ([(1, SObj.cells [.v (ptrV D), .v (.slice none 0 0), .v (.slice none 0 0), .v (.int .i64 used), .v (.int .i64 ((next : Int) + (takesN b.length : Nat))), .v (.bool false)] 115)]) (by kernel_rfl) rfl (rfl) (by repeat' (first | exact trivial | refine And.intro rfl ?_)) ?_
    conv => whnf
    repeat' ((first | refine w1 (h := ?_) | refine w2 ?_ ?_ | refine w3 (h := ?_) | refine w4 (h := ?_) | refine hD _ _ ?_ | refine hL _ _ ?_ | (intro h; (try simp only [n1, n2, n3, n4, n5, n6] at h); first | (exfalso; omega) | (cases h; done) | skip)) <;> (conv => whnf))
    refine Tri.use tc [] rfl (fun _ _ _ => rfl) trivial (fun f hf => hf) (fun u hu => ?_)
    obtain ⟨hob, hof⟩ := hu
    generalize u.1 = o at *
    generalize u.2 = f2 at *
    conv => whnf
    refine appFK_go ?_
    conv => whnf
    repeat' ((first | refine w1 (h := ?_) | refine w2 ?_ ?_ | refine w3 (h := ?_) | refine w4 (h := ?_) | refine hD _ _ ?_ | refine hL _ _ ?_ | (intro h; (try simp only [n1, n2, n3, n4, n5, n6] at h); first | (exfalso; omega) | (cases h; done) | skip)) <;> (conv => whnf))
    rename_i m0 sp0
    have hw0 : wait = [] := hW
    subst hw0
    have hrl : ([o.v] ++ sp0).length = 1 + m0 := by rw [List.length_append, h, Nat.mul_one]; rfl
    have hW2 : RowI.Ok ([] ++ [o]) (.row ([o.v] ++ sp0)) := ⟨rfl, by simp⟩
    exact ⟨⟨some o, f2⟩, ⟨rfl, hob, hof⟩, sto_ret (s := ⟨kept, [] ++ [o], used, next + takesN b.length, false⟩) ⟨.no, .row _, hK, hW2⟩ 2 5 (by decide) (by repeat first | exact List.mem_cons_self .. | apply List.mem_cons_of_mem) (by repeat first | exact List.mem_cons_self .. | apply List.mem_cons_of_mem) (fun xs e => by cases e <;> exact (by repeat first | exact List.mem_cons_self .. | apply List.mem_cons_of_mem)) (fun xs e => by cases e <;> exact (by repeat first | exact List.mem_cons_self .. | apply List.mem_cons_of_mem)) (fun ρ => by rw [← hrl]; first | rfl | (rw [← hwl]; rfl)) rfl (fun _ _ _ => rfl) (fun g hg => List.mem_append_left _ hg)⟩
set_option maxHeartbeats 4000000 in
theorem tSAppG1 (fx : List Fact) (D : Nat) (d : DS) (hd : d.Ok) (kept wait : List BsV) (used next : Nat) (ys : List Value) (hK : RowI.Ok kept .no) (hW : RowI.Ok wait (.row ys)) (A : Option Addr) (cap : Nat) (b : List UInt8) (hB : BytesAt fx A b) (hb : b.length ≤ 200) (hroom : next + takesN b.length + 3 ≤ d.l.length) (hw : wait.length ≤ 100000) :
    Tri Try.prog 52 [.p 1 0, .v (.slice A b.length cap)] [(1, .cells [.v (ptrV D), .v (.slice none 0 0), .s 3 0 wait.length ys.length, .v (.int .i64 used), .v (.int .i64 next), .v (.bool false)] 115), (3, .row ys 22), pdk 0 D d] 4 fx
      (RetE (α := AppR) 2 (fun x => x.Ok (d.wrN ((3 + next : Nat) : Int) (entS b)).1 b) (fun x => .v (.int .i64 (d.wrN ((3 + next : Nat) : Int) (entS b)).1))
        (fun x => [pdk 0 D (d.wrN ((3 + next : Nat) : Int) (entS b)).2, (1, .abs (stoA D (x.sto ⟨kept, wait, used, next, false⟩ (d.wrN ((3 + next : Nat) : Int) (entS b)).1 (takesN b.length))))]) 2 (fun x => x.f)) := by
  have hlen := hd.len
  have htk : takesN b.length ≤ 4 := by unfold takesN; omega
  have htp := takesN_pos b.length
  have htg := takesN_ge b.length
  have hel := entB_length b
  obtain ⟨n, hn⟩ : ∃ n, 64 * takesN b.length = 2 + b.length + n := ⟨64 * takesN b.length - 2 - b.length, by omega⟩
  have hn2 : ((takesN b.length : Int) * 64 - 2 - (b.length : Int)).toNat = n := by omega
  have hent : putB b.length 2 ++ b ++ List.replicate n 0 = entB b := by
    rw [entB_put, show 64 * takesN b.length - 2 - b.length = n by omega]
  have tcat := tCat3F fx A cap b (putB b.length 2) hB n (64 * takesN b.length) (putB_length _ _) (by omega) (by omega)
  rw [hent] at tcat
  refine Tri.of_code tok Try.func52 rfl rfl rfl (by decide) rfl (Nat.le_of_ble_eq_true rfl) ?_
  conv => whnf
  repeat' ((first | refine w1 (h := ?_) | refine w2 ?_ ?_ | refine w3 (h := ?_) | refine w4 (h := ?_) | refine hD _ _ ?_ | refine hL _ _ ?_ | (intro h; (try simp only [n1, n2, n3, n4, n5, n6] at h); first | (exfalso; omega) | (cases h; done) | skip)) <;> (conv => whnf))
  refine Tri.use ((tSTakes fx b.length (by omega)).one) [] rfl (fun _ _ _ => rfl) trivial (fun f hf => by first | exact hf | cases hf) (fun u hu => ?_)
  conv => whnf
  repeat' ((first | refine w1 (h := ?_) | refine w2 ?_ ?_ | refine w3 (h := ?_) | refine w4 (h := ?_) | refine hD _ _ ?_ | refine hL _ _ ?_ | (intro h; (try simp only [n1, n2, n3, n4, n5, n6] at h); first | (exfalso; omega) | (cases h; done) | skip)) <;> (conv => whnf))
  refine Tri.of_code tok Try.func51 rfl rfl rfl (by decide) rfl (Nat.le_of_ble_eq_true rfl) ?_
  conv => whnf
  repeat' ((first | refine w1 (h := ?_) | refine w2 ?_ ?_ | refine w3 (h := ?_) | refine w4 (h := ?_) | refine hD _ _ ?_ | refine hL _ _ ?_ | (intro h; (try simp only [n1, n2, n3, n4, n5, n6] at h); first | (exfalso; omega) | (cases h; done) | skip)) <;> (conv => whnf))
  refine draw_opaque fun KD hD => ?_
  refine draw_solid tok (by kernel_rfl) [.any 0, .any 1, .any 2, .any 6, .any 7, .any 8, .load 3, .load 9, .one 4, .any 5, .any 10, .any 11] [] (by kernel_rfl) rfl rfl (by repeat' (first | exact trivial | refine And.intro rfl ?_)) ?_
  conv => whnf
  repeat' ((first | refine w1 (h := ?_) | refine w2 ?_ ?_ | refine w3 (h := ?_) | refine w4 (h := ?_) | refine hD _ _ ?_ | refine hL _ _ ?_ | (intro h; (try simp only [n1, n2, n3, n4, n5, n6] at h); first | (exfalso; omega) | (cases h; done) | skip)) <;> (conv => whnf))
  refine Tri.use (pSize fx D d) [0] rfl (args_ren rfl rfl) ⟨OSub.ren rfl rfl, trivial⟩ (fun f hf => by first | exact hf | cases hf | simp_all) (fun u hu => ?_)
  conv => whnf
  repeat' ((first | refine w1 (h := ?_) | refine w2 ?_ ?_ | refine w3 (h := ?_) | refine w4 (h := ?_) | refine hD _ _ ?_ | refine hL _ _ ?_ | (intro h; (try simp only [n1, n2, n3, n4, n5, n6] at h); first | (exfalso; omega) | (cases h; done) | skip)) <;> (conv => whnf))
  refine Tri.use ((tSTakes fx b.length (by omega)).one) [] rfl (fun _ _ _ => rfl) trivial (fun f hf => by first | exact hf | cases hf) (fun u hu => ?_)
  conv => whnf
  repeat' ((first | refine w1 (h := ?_) | refine w2 ?_ ?_ | refine w3 (h := ?_) | refine w4 (h := ?_) | refine hD _ _ ?_ | refine hL _ _ ?_ | (intro h; (try simp only [n1, n2, n3, n4, n5, n6] at h); first | (exfalso; omega) | (cases h; done) | skip)) <;> (conv => whnf))
  refine draw_join (α := Nat × List Value) (fun x => ⟨[(0, .p 1 0), (1, .v (.slice A b.length cap)), (5, .v (.int .i64 (takesN b.length : Nat))), (6, .v (.slice (some ⟨x.1, 0, none⟩) (64 * takesN b.length) x.2.length))], [pdk 0 D d, (1, .cells [.v (ptrV D), .v (.slice none 0 0), .s 3 0 wait.length ys.length, .v (.int .i64 used), .v (.int .i64 next), .v (.bool false)] 115), (3, .row ys 22)], 4, rowFact x.1 x.2 5 :: fx⟩)
    (fun x => x.2.take (64 * takesN b.length) = (entB b).map bv ∧ 64 * takesN b.length ≤ x.2.length) (fun KJ hJ => ?_) ?_
  · refine draw_tree tok (by kernel_rfl) (.step (.any 0) <| .step (.any 1) <| .step (.any 3) <| .step (.any 4) <| .step (.any 5) <| .step (.any 6) <| .step (.any 7) <| .step (.any 8) <| .step (.any 9) <| .two 2 (.step (.one 10) <| .step (.one 11) <| .step (.one 12) <| .step (.any 13) .done) 10 (.step (.one 2) <| .step (.one 11) <| .step (.one 12) <| .step (.any 13) .done)) [] [] (by kernel_rfl) rfl rfl trivial ?_
    conv => whnf
    repeat' ((first | refine w1 (h := ?_) | refine w2 ?_ ?_ | refine w3 (h := ?_) | refine w4 (h := ?_) | refine hD _ _ ?_ | refine hL _ _ ?_ | (intro h; (try simp only [n1, n2, n3, n4, n5, n6] at h); first | (exfalso; omega) | (cases h; done) | skip)) <;> (conv => whnf))
    refine And.intro ?_ ?_
    all_goals
      conv => whnf
      repeat' ((first | refine w1 (h := ?_) | refine w2 ?_ ?_ | refine w3 (h := ?_) | refine w4 (h := ?_) | refine hD _ _ ?_ | refine hL _ _ ?_ | (intro h; (try simp only [n1, n2, n3, n4, n5, n6] at h); first | (exfalso; omega) | (cases h; done) | skip)) <;> (conv => whnf))
      try rw [hn2]
      refine Tri.use (tSPut fx b.length 2 (by omega) (by omega) (by omega)) [] rfl (args_ren rfl rfl) trivial (fun f hf => by first | exact hf | cases hf | simp_all) (fun u hu => ?_)
      conv => whnf
      repeat' ((first | refine w1 (h := ?_) | refine w2 ?_ ?_ | refine w3 (h := ?_) | refine w4 (h := ?_) | refine hD _ _ ?_ | refine hL _ _ ?_ | (intro h; (try simp only [n1, n2, n3, n4, n5, n6] at h); first | (exfalso; omega) | (cases h; done) | skip)) <;> (conv => whnf))
      try rw [hn2]
      first
        | refine Tri.use tcat [6, 4, 5] rfl (args_ren rfl rfl) ⟨OSub.ren rfl rfl, OSub.ren rfl rfl, OSub.ren rfl rfl, trivial⟩ (fun f hf => hf) (fun u hu => ?_)
        | refine Tri.use tcat [6, 5, 4] rfl (args_ren rfl rfl) ⟨OSub.ren rfl rfl, OSub.ren rfl rfl, OSub.ren rfl rfl, trivial⟩ (fun f hf => hf) (fun u hu => ?_)
      conv => whnf
      repeat' ((first | refine w1 (h := ?_) | refine w2 ?_ ?_ | refine w3 (h := ?_) | refine w4 (h := ?_) | refine hD _ _ ?_ | refine hL _ _ ?_ | (intro h; (try simp only [n1, n2, n3, n4, n5, n6] at h); first | (exfalso; omega) | (cases h; done) | skip)) <;> (conv => whnf))
      exact hJ _ u [0, 1, 2, 3] hu ⟨rfl, ⟨SEq.ren rfl rfl, fun _ _ _ => rfl, fun _ _ _ => rfl, fun _ _ _ => rfl, trivial⟩, ⟨OSub.ren rfl rfl, OSub.ren rfl rfl, OSub.ren rfl rfl,trivial⟩, fun f hf => hf⟩
  rintro ⟨b1, XS⟩ ⟨hX1, hX2⟩
  simp only at hX1 hX2
  have hXb : ∀ i, i < takesN b.length → BytesAt (rowFact b1 XS 5 :: fx) (some ⟨b1, 64 * i, none⟩) (((entB b).drop (64 * i)).take 64) := fun i hi => by
    have hl : (((entB b).drop (64 * i)).take 64).length = 64 := by rw [List.length_take, List.length_drop]; omega
    refine BytesAt.row (List.mem_cons_self ..) ?_
    rw [hl, List.map_take, List.map_drop, ← hX1, List.drop_take, List.take_take, Nat.min_eq_left (by omega)]
  clear tcat
  conv => whnf
  repeat' ((first | refine w1 (h := ?_) | refine w2 ?_ ?_ | refine w3 (h := ?_) | refine w4 (h := ?_) | refine hD _ _ ?_ | refine hL _ _ ?_ | (intro h; (try simp only [n1, n2, n3, n4, n5, n6] at h); first | (exfalso; omega) | (cases h; done) | skip)) <;> (conv => whnf))
  refine loop_by tok (α := Nat × DS) (fun x => match x with | (i, e) => ⟨[(0, .p 1 0), (1, .v (.slice A b.length cap)), (5, .v (.int .i64 (takesN b.length : Nat))), (6, .v (.slice (some ⟨b1, 0, none⟩) (64 * takesN b.length) XS.length)), (45, .v (.int .i64 (takesN b.length : Nat))), (46, .v (.int .i64 (i : Int)))], [pdk 0 D e, (1, .cells [.v (ptrV D), .v (.slice none 0 0), .s 3 0 wait.length ys.length, .v (.int .i64 used), .v (.int .i64 next), .v (.bool false)] 115), (3, .row ys 22)], 4, rowFact b1 XS 5 :: fx⟩)
    (fun x => x.1 ≤ takesN b.length ∧ x.2.Ok ∧ x.2.l.length = d.l.length ∧ d.wrN ((3 + next : Nat) : Int) (entS b) = x.2.wrN ((3 + next + x.1 : Nat) : Int) ((entS b).drop x.1)) (fun x => takesN b.length - x.1) (0, d) [0, 1, 2, 3] ⟨Nat.zero_le _, hd, rfl, rfl⟩
    ⟨rfl, ⟨SEq.ren rfl rfl, fun _ _ _ => rfl, fun _ _ _ => rfl, fun _ _ _ => rfl, fun _ _ _ => rfl, fun _ _ _ => rfl, trivial⟩, ⟨OSub.ren rfl rfl, OSub.ren rfl rfl, OSub.ren rfl rfl,trivial⟩, fun f hf => hf⟩ ?_
  rintro ⟨i, e⟩ ⟨hi, heo, hel2, hwr⟩
  simp only at hi heo hel2 hwr
  conv => whnf
  repeat' ((first | refine w1 (h := ?_) | refine w2 ?_ ?_ | refine w3 (h := ?_) | refine w4 (h := ?_) | refine hD _ _ ?_ | refine hL _ _ ?_ | (intro h; (try simp only [n1, n2, n3, n4, n5, n6] at h); first | (exfalso; omega) | (cases h; done) | skip)) <;> (conv => whnf))
  · have hi2 : i < takesN b.length := by omega
    have hl : (((entB b).drop (64 * i)).take 64).length = 64 := by rw [List.length_take, List.length_drop]; omega
    rw [entS_get hi2] at hwr
    have q3 : (i + 1) * 64 - i * 64 = 64 := by omega
    have q4 : ¬ XS.length = i * 64 := by omega
    refine draw_opaque fun KD hD => ?_
    refine draw_solid tok (by kernel_rfl) [.any 0, .any 1, .any 2, .any 4, .any 5, .any 6, .any 9, .any 11, .any 12, .any 13, .any 14, .any 15, .any 16, .any 17, .load 3, .one 7, .any 8, .any 10, .one 18, .any 19] [] (by kernel_rfl) rfl rfl (by repeat' (first | exact trivial | refine And.intro rfl ?_)) ?_
    conv => whnf
    repeat' ((first | (refine Exists.intro ((i + 1) * 64) (And.intro (by omega) ?_)) | (refine Exists.intro (i * 64) (And.intro (by omega) ?_)) | refine w1 (h := ?_) | refine w2 ?_ ?_ | refine w3 (h := ?_) | refine w4 (h := ?_) | refine hD _ _ ?_ | refine hL _ _ ?_ | (intro h; (try simp only [n1, n2, n3, n4, n5, n6] at h); first | (exfalso; omega) | (cases h; done) | skip)) <;> (conv => whnf))
    rw [q3, Option.map_some, if_neg q4, add_at, show 0 + i * 64 * 1 = 64 * i by omega]
    have tw := pWrite (rowFact b1 XS 5 :: fx) D e heo ((3 + next + i : Nat) : Int) (some ⟨b1, 64 * i, none⟩) (XS.length - i * 64) (((entB b).drop (64 * i)).take 64) (hXb i hi2)
    have hwo := heo.write ((3 + next + i : Nat) : Int) (((entB b).drop (64 * i)).take 64)
    have hwl : (e.write ((3 + next + i : Nat) : Int) (((entB b).drop (64 * i)).take 64)).2.l.length = d.l.length := by rw [write_len_eq, hel2]
    rw [hl] at tw
    rw [DS.wrN] at hwr
    refine Tri.use tw [0] rfl (args_ren rfl rfl) ⟨OSub.ren rfl rfl, trivial⟩ (fun f hf => by first | exact hf | cases hf | simp_all) (fun u hu => ?_)
    generalize e.write ((3 + next + i : Nat) : Int) (((entB b).drop (64 * i)).take 64) = ew at *
    conv => whnf
    repeat' ((first | refine w1 (h := ?_) | refine w2 ?_ ?_ | refine w3 (h := ?_) | refine w4 (h := ?_) | refine hD _ _ ?_ | refine hL _ _ ?_ | (intro h; (try simp only [n1, n2, n3, n4, n5, n6] at h); first | (exfalso; omega) | (cases h; done) | skip)) <;> (conv => whnf))
    · have hne := h
      rw [if_neg h] at hwr
      rw [hwr]
      refine Tri.of_code tok Try.func80 rfl rfl rfl (by decide) rfl (Nat.le_of_ble_eq_true rfl) ?_
      conv => whnf
      repeat' ((first | refine w1 (h := ?_) | refine w2 ?_ ?_ | refine w3 (h := ?_) | refine w4 (h := ?_) | refine hD _ _ ?_ | refine hL _ _ ?_ | (intro h; (try simp only [n1, n2, n3, n4, n5, n6] at h); first | (exfalso; omega) | (cases h; done) | skip)) <;> (conv => whnf))
      exact ⟨⟨none, []⟩, hne, sto_ret (s := ⟨kept, wait, used, next, decide (ew.1 = 6)⟩) ⟨.no, .row ys, hK, hW⟩ 2 3 (by decide) (by repeat first | exact List.mem_cons_self .. | apply List.mem_cons_of_mem) (by repeat first | exact List.mem_cons_self .. | apply List.mem_cons_of_mem) (fun xs e => by cases e <;> exact (by repeat first | exact List.mem_cons_self .. | apply List.mem_cons_of_mem)) (fun xs e => by cases e <;> exact (by repeat first | exact List.mem_cons_self .. | apply List.mem_cons_of_mem)) (fun ρ => rfl) rfl (SEq.ren rfl rfl) (fun _ h => nomatch h)⟩
    · rw [if_pos (by omega)] at hwr
      exact ⟨(i + 1, ew.2), [0, 1, 2, 3], ⟨⟨by simp only; omega, hwo, hwl, hwr⟩, by simp only; omega⟩, rfl, ⟨SEq.ren rfl rfl, fun _ _ _ => rfl, fun _ _ _ => rfl, fun _ _ _ => rfl, fun _ _ _ => rfl, SEq.eq rfl, trivial⟩, ⟨OSub.ren rfl rfl, OSub.ren rfl rfl, OSub.ren rfl rfl,trivial⟩, fun f hf => hf⟩
  · have hit : i = takesN b.length := by omega
    subst hit
    rw [entS_end] at hwr
    replace hwr : d.wrN ((3 + next : Nat) : Int) (entS b) = (0, e) := hwr
    rw [hwr]
    have tc := tSClone (rowFact b1 XS 5 :: fx) A cap b (hB.mono fun f hf => List.mem_cons_of_mem _ hf) (by omega)
    refine draw_opaque fun KD hD => ?_
    refine draw_new tok (by kernel_rfl) [.any 0, .any 1, .any 2, .any 3, .any 5, .load 4, .one 6, .one 7, .one 8, .any 9, .any 10, .last 11] [11] ([(1, SObj.cells [.v (ptrV D), .v (.slice none 0 0), .s 3 0 wait.length ys.length, .v (.int .i64 used), .v (.int .i64 ((next : Int) + (takesN b.length : Nat))), .v (.bool false)] 115)]) (by kernel_rfl) rfl (rfl) (by repeat' (first | exact trivial | refine And.intro rfl ?_)) ?_
    conv => whnf
    repeat' ((first | refine w1 (h := ?_) | refine w2 ?_ ?_ | refine w3 (h := ?_) | refine w4 (h := ?_) | refine hD _ _ ?_ | refine hL _ _ ?_ | (intro h; (try simp only [n1, n2, n3, n4, n5, n6] at h); first | (exfalso; omega) | (cases h; done) | skip)) <;> (conv => whnf))
    refine Tri.use tc [] rfl (fun _ _ _ => rfl) trivial (fun f hf => hf) (fun u hu => ?_)
    obtain ⟨hob, hof⟩ := hu
    generalize u.1 = o at *
    generalize u.2 = f2 at *
    conv => whnf
    refine appFK_go ?_
    conv => whnf
    repeat' ((first | refine w1 (h := ?_) | refine w2 ?_ ?_ | refine w3 (h := ?_) | refine w4 (h := ?_) | refine hD _ _ ?_ | refine hL _ _ ?_ | (intro h; (try simp only [n1, n2, n3, n4, n5, n6] at h); first | (exfalso; omega) | (cases h; done) | skip)) <;> (conv => whnf))
    obtain ⟨hw1, hw2⟩ := hW
    refine And.intro ⟨by omega, hw2, by omega, fun u hu => by rw [List.mem_singleton.1 hu]; rfl⟩ ?_
    intro m0 sp0 hsp0
    conv => whnf
    repeat' ((first | refine w1 (h := ?_) | refine w2 ?_ ?_ | refine w3 (h := ?_) | refine w4 (h := ?_) | refine hD _ _ ?_ | refine hL _ _ ?_ | (intro h; (try simp only [n1, n2, n3, n4, n5, n6] at h); first | (exfalso; omega) | (cases h; done) | skip)) <;> (conv => whnf))
    have hrl : (ys.take (wait.length * 1) ++ [o.v] ++ sp0).length = wait.length + 1 + m0 := by simp only [List.length_append, List.length_take, List.length_singleton, hsp0, Nat.mul_one, Nat.min_eq_left hw2]
    have hW2 : RowI.Ok (wait ++ [o]) (.row (ys.take (wait.length * 1) ++ [o.v] ++ sp0)) := ⟨by rw [Nat.mul_one, hw1, List.take_left' (by simp)]; simp, by rw [hrl]; simp⟩
    have hwl : (wait ++ [o]).length = wait.length + 1 := by simp
    exact ⟨⟨some o, f2⟩, ⟨rfl, hob, hof⟩, sto_ret (s := ⟨kept, wait ++ [o], used, next + takesN b.length, false⟩) ⟨.no, .row _, hK, hW2⟩ 2 5 (by decide) (by repeat first | exact List.mem_cons_self .. | apply List.mem_cons_of_mem) (by repeat first | exact List.mem_cons_self .. | apply List.mem_cons_of_mem) (fun xs e => by cases e <;> exact (by repeat first | exact List.mem_cons_self .. | apply List.mem_cons_of_mem)) (fun xs e => by cases e <;> exact (by repeat first | exact List.mem_cons_self .. | apply List.mem_cons_of_mem)) (fun ρ => by rw [← hrl]; first | rfl | (rw [← hwl]; rfl)) rfl (fun _ _ _ => rfl) (fun g hg => List.mem_append_left _ hg)⟩
set_option maxHeartbeats 4000000 in
theorem tSAppG2 (fx : List Fact) (D : Nat) (d : DS) (hd : d.Ok) (kept wait : List BsV) (used next : Nat) (xs : List Value) (hK : RowI.Ok kept (.row xs)) (hW : RowI.Ok wait .no) (A : Option Addr) (cap : Nat) (b : List UInt8) (hB : BytesAt fx A b) (hb : b.length ≤ 200) (hroom : next + takesN b.length + 3 ≤ d.l.length) (hw : wait.length ≤ 100000) :
    Tri Try.prog 52 [.p 1 0, .v (.slice A b.length cap)] [(1, .cells [.v (ptrV D), .s 2 0 kept.length xs.length, .v (.slice none 0 0), .v (.int .i64 used), .v (.int .i64 next), .v (.bool false)] 115), (2, .row xs 22), pdk 0 D d] 4 fx
      (RetE (α := AppR) 2 (fun x => x.Ok (d.wrN ((3 + next : Nat) : Int) (entS b)).1 b) (fun x => .v (.int .i64 (d.wrN ((3 + next : Nat) : Int) (entS b)).1))
        (fun x => [pdk 0 D (d.wrN ((3 + next : Nat) : Int) (entS b)).2, (1, .abs (stoA D (x.sto ⟨kept, wait, used, next, false⟩ (d.wrN ((3 + next : Nat) : Int) (entS b)).1 (takesN b.length))))]) 2 (fun x => x.f)) := by
  have hlen := hd.len
  have htk : takesN b.length ≤ 4 := by unfold takesN; omega
  have htp := takesN_pos b.length
  have htg := takesN_ge b.length
  have hel := entB_length b
  obtain ⟨n, hn⟩ : ∃ n, 64 * takesN b.length = 2 + b.length + n := ⟨64 * takesN b.length - 2 - b.length, by omega⟩
  have hn2 : ((takesN b.length : Int) * 64 - 2 - (b.length : Int)).toNat = n := by omega
  have hent : putB b.length 2 ++ b ++ List.replicate n 0 = entB b := by
    rw [entB_put, show 64 * takesN b.length - 2 - b.length = n by omega]
  have tcat := tCat3F fx A cap b (putB b.length 2) hB n (64 * takesN b.length) (putB_length _ _) (by omega) (by omega)
  rw [hent] at tcat
  refine Tri.of_code tok Try.func52 rfl rfl rfl (by decide) rfl (Nat.le_of_ble_eq_true rfl) ?_
  conv => whnf
  repeat' ((first | refine w1 (h := ?_) | refine w2 ?_ ?_ | refine w3 (h := ?_) | refine w4 (h := ?_) | refine hD _ _ ?_ | refine hL _ _ ?_ | (intro h; (try simp only [n1, n2, n3, n4, n5, n6] at h); first | (exfalso; omega) | (cases h; done) | skip)) <;> (conv => whnf))
  refine Tri.use ((tSTakes fx b.length (by omega)).one) [] rfl (fun _ _ _ => rfl) trivial (fun f hf => by first | exact hf | cases hf) (fun u hu => ?_)
  conv => whnf
  repeat' ((first | refine w1 (h := ?_) | refine w2 ?_ ?_ | refine w3 (h := ?_) | refine w4 (h := ?_) | refine hD _ _ ?_ | refine hL _ _ ?_ | (intro h; (try simp only [n1, n2, n3, n4, n5, n6] at h); first | (exfalso; omega) | (cases h; done) | skip)) <;> (conv => whnf))
  refine Tri.of_code tok Try.func51 rfl rfl rfl (by decide) rfl (Nat.le_of_ble_eq_true rfl) ?_
  conv => whnf
  repeat' ((first | refine w1 (h := ?_) | refine w2 ?_ ?_ | refine w3 (h := ?_) | refine w4 (h := ?_) | refine hD _ _ ?_ | refine hL _ _ ?_ | (intro h; (try simp only [n1, n2, n3, n4, n5, n6] at h); first | (exfalso; omega) | (cases h; done) | skip)) <;> (conv => whnf))
  refine draw_opaque fun KD hD => ?_
  refine draw_solid tok (by kernel_rfl) [.any 0, .any 1, .any 2, .any 6, .any 7, .any 8, .load 3, .load 9, .one 4, .any 5, .any 10, .any 11] [] (by kernel_rfl) rfl rfl (by repeat' (first | exact trivial | refine And.intro rfl ?_)) ?_
  conv => whnf
  repeat' ((first | refine w1 (h := ?_) | refine w2 ?_ ?_ | refine w3 (h := ?_) | refine w4 (h := ?_) | refine hD _ _ ?_ | refine hL _ _ ?_ | (intro h; (try simp only [n1, n2, n3, n4, n5, n6] at h); first | (exfalso; omega) | (cases h; done) | skip)) <;> (conv => whnf))
  refine Tri.use (pSize fx D d) [0] rfl (args_ren rfl rfl) ⟨OSub.ren rfl rfl, trivial⟩ (fun f hf => by first | exact hf | cases hf | simp_all) (fun u hu => ?_)
  conv => whnf
  repeat' ((first | refine w1 (h := ?_) | refine w2 ?_ ?_ | refine w3 (h := ?_) | refine w4 (h := ?_) | refine hD _ _ ?_ | refine hL _ _ ?_ | (intro h; (try simp only [n1, n2, n3, n4, n5, n6] at h); first | (exfalso; omega) | (cases h; done) | skip)) <;> (conv => whnf))
  refine Tri.use ((tSTakes fx b.length (by omega)).one) [] rfl (fun _ _ _ => rfl) trivial (fun f hf => by first | exact hf | cases hf) (fun u hu => ?_)
  conv => whnf
  repeat' ((first | refine w1 (h := ?_) | refine w2 ?_ ?_ | refine w3 (h := ?_) | refine w4 (h := ?_) | refine hD _ _ ?_ | refine hL _ _ ?_ | (intro h; (try simp only [n1, n2, n3, n4, n5, n6] at h); first | (exfalso; omega) | (cases h; done) | skip)) <;> (conv => whnf))
  refine draw_join (α := Nat × List Value) (fun x => ⟨[(0, .p 1 0), (1, .v (.slice A b.length cap)), (5, .v (.int .i64 (takesN b.length : Nat))), (6, .v (.slice (some ⟨x.1, 0, none⟩) (64 * takesN b.length) x.2.length))], [pdk 0 D d, (1, .cells [.v (ptrV D), .s 2 0 kept.length xs.length, .v (.slice none 0 0), .v (.int .i64 used), .v (.int .i64 next), .v (.bool false)] 115), (2, .row xs 22)], 4, rowFact x.1 x.2 5 :: fx⟩)
    (fun x => x.2.take (64 * takesN b.length) = (entB b).map bv ∧ 64 * takesN b.length ≤ x.2.length) (fun KJ hJ => ?_) ?_
  · refine draw_tree tok (by kernel_rfl) (.step (.any 0) <| .step (.any 1) <| .step (.any 3) <| .step (.any 4) <| .step (.any 5) <| .step (.any 6) <| .step (.any 7) <| .step (.any 8) <| .step (.any 9) <| .two 2 (.step (.one 10) <| .step (.one 11) <| .step (.one 12) <| .step (.any 13) .done) 10 (.step (.one 2) <| .step (.one 11) <| .step (.one 12) <| .step (.any 13) .done)) [] [] (by kernel_rfl) rfl rfl trivial ?_
    conv => whnf
    repeat' ((first | refine w1 (h := ?_) | refine w2 ?_ ?_ | refine w3 (h := ?_) | refine w4 (h := ?_) | refine hD _ _ ?_ | refine hL _ _ ?_ | (intro h; (try simp only [n1, n2, n3, n4, n5, n6] at h); first | (exfalso; omega) | (cases h; done) | skip)) <;> (conv => whnf))
    refine And.intro ?_ ?_
    all_goals
      conv => whnf
      repeat' ((first | refine w1 (h := ?_) | refine w2 ?_ ?_ | refine w3 (h := ?_) | refine w4 (h := ?_) | refine hD _ _ ?_ | refine hL _ _ ?_ | (intro h; (try simp only [n1, n2, n3, n4, n5, n6] at h); first | (exfalso; omega) | (cases h; done) | skip)) <;> (conv => whnf))
      try rw [hn2]
      refine Tri.use (tSPut fx b.length 2 (by omega) (by omega) (by omega)) [] rfl (args_ren rfl rfl) trivial (fun f hf => by first | exact hf | cases hf | simp_all) (fun u hu => ?_)
      conv => whnf
      repeat' ((first | refine w1 (h := ?_) | refine w2 ?_ ?_ | refine w3 (h := ?_) | refine w4 (h := ?_) | refine hD _ _ ?_ | refine hL _ _ ?_ | (intro h; (try simp only [n1, n2, n3, n4, n5, n6] at h); first | (exfalso; omega) | (cases h; done) | skip)) <;> (conv => whnf))
      try rw [hn2]
      first
        | refine Tri.use tcat [6, 4, 5] rfl (args_ren rfl rfl) ⟨OSub.ren rfl rfl, OSub.ren rfl rfl, OSub.ren rfl rfl, trivial⟩ (fun f hf => hf) (fun u hu => ?_)
        | refine Tri.use tcat [6, 5, 4] rfl (args_ren rfl rfl) ⟨OSub.ren rfl rfl, OSub.ren rfl rfl, OSub.ren rfl rfl, trivial⟩ (fun f hf => hf) (fun u hu => ?_)
      conv => whnf
      repeat' ((first | refine w1 (h := ?_) | refine w2 ?_ ?_ | refine w3 (h := ?_) | refine w4 (h := ?_) | refine hD _ _ ?_ | refine hL _ _ ?_ | (intro h; (try simp only [n1, n2, n3, n4, n5, n6] at h); first | (exfalso; omega) | (cases h; done) | skip)) <;> (conv => whnf))
      exact hJ _ u [0, 1, 2, 3] hu ⟨rfl, ⟨SEq.ren rfl rfl, fun _ _ _ => rfl, fun _ _ _ => rfl, fun _ _ _ => rfl, trivial⟩, ⟨OSub.ren rfl rfl, OSub.ren rfl rfl, OSub.ren rfl rfl,trivial⟩, fun f hf => hf⟩
  rintro ⟨b1, XS⟩ ⟨hX1, hX2⟩
  simp only at hX1 hX2
  have hXb : ∀ i, i < takesN b.length → BytesAt (rowFact b1 XS 5 :: fx) (some ⟨b1, 64 * i, none⟩) (((entB b).drop (64 * i)).take 64) := fun i hi => by
    have hl : (((entB b).drop (64 * i)).take 64).length = 64 := by rw [List.length_take, List.length_drop]; omega
    refine BytesAt.row (List.mem_cons_self ..) ?_
    rw [hl, List.map_take, List.map_drop, ← hX1, List.drop_take, List.take_take, Nat.min_eq_left (by omega)]
  clear tcat
  conv => whnf
  repeat' ((first | refine w1 (h := ?_) | refine w2 ?_ ?_ | refine w3 (h := ?_) | refine w4 (h := ?_) | refine hD _ _ ?_ | refine hL _ _ ?_ | (intro h; (try simp only [n1, n2, n3, n4, n5, n6] at h); first | (exfalso; omega) | (cases h; done) | skip)) <;> (conv => whnf))
  refine loop_by tok (α := Nat × DS) (fun x => match x with | (i, e) => ⟨[(0, .p 1 0), (1, .v (.slice A b.length cap)), (5, .v (.int .i64 (takesN b.length : Nat))), (6, .v (.slice (some ⟨b1, 0, none⟩) (64 * takesN b.length) XS.length)), (45, .v (.int .i64 (takesN b.length : Nat))), (46, .v (.int .i64 (i : Int)))], [pdk 0 D e, (1, .cells [.v (ptrV D), .s 2 0 kept.length xs.length, .v (.slice none 0 0), .v (.int .i64 used), .v (.int .i64 next), .v (.bool false)] 115), (2, .row xs 22)], 4, rowFact b1 XS 5 :: fx⟩)
    (fun x => x.1 ≤ takesN b.length ∧ x.2.Ok ∧ x.2.l.length = d.l.length ∧ d.wrN ((3 + next : Nat) : Int) (entS b) = x.2.wrN ((3 + next + x.1 : Nat) : Int) ((entS b).drop x.1)) (fun x => takesN b.length - x.1) (0, d) [0, 1, 2, 3] ⟨Nat.zero_le _, hd, rfl, rfl⟩
    ⟨rfl, ⟨SEq.ren rfl rfl, fun _ _ _ => rfl, fun _ _ _ => rfl, fun _ _ _ => rfl, fun _ _ _ => rfl, fun _ _ _ => rfl, trivial⟩, ⟨OSub.ren rfl rfl, OSub.ren rfl rfl, OSub.ren rfl rfl,trivial⟩, fun f hf => hf⟩ ?_
  rintro ⟨i, e⟩ ⟨hi, heo, hel2, hwr⟩
  simp only at hi heo hel2 hwr
  conv => whnf
  repeat' ((first | refine w1 (h := ?_) | refine w2 ?_ ?_ | refine w3 (h := ?_) | refine w4 (h := ?_) | refine hD _ _ ?_ | refine hL _ _ ?_ | (intro h; (try simp only [n1, n2, n3, n4, n5, n6] at h); first | (exfalso; omega) | (cases h; done) | skip)) <;> (conv => whnf))
  · have hi2 : i < takesN b.length := by omega
    have hl : (((entB b).drop (64 * i)).take 64).length = 64 := by rw [List.length_take, List.length_drop]; omega
    rw [entS_get hi2] at hwr
    have q3 : (i + 1) * 64 - i * 64 = 64 := by omega
    have q4 : ¬ XS.length = i * 64 := by omega
    refine draw_opaque fun KD hD => ?_
    refine draw_solid tok (by kernel_rfl) [.any 0, .any 1, .any 2, .any 4, .any 5, .any 6, .any 9, .any 11, .any 12, .any 13, .any 14, .any 15, .any 16, .any 17, .load 3, .one 7, .any 8, .any 10, .one 18, .any 19] [] (by kernel_rfl) rfl rfl (by repeat' (first | exact trivial | refine And.intro rfl ?_)) ?_
    conv => whnf
    repeat' ((first | (refine Exists.intro ((i + 1) * 64) (And.intro (by omega) ?_)) | (refine Exists.intro (i * 64) (And.intro (by omega) ?_)) | refine w1 (h := ?_) | refine w2 ?_ ?_ | refine w3 (h := ?_) | refine w4 (h := ?_) | refine hD _ _ ?_ | refine hL _ _ ?_ | (intro h; (try simp only [n1, n2, n3, n4, n5, n6] at h); first | (exfalso; omega) | (cases h; done) | skip)) <;> (conv => whnf))
    rw [q3, Option.map_some, if_neg q4, add_at, show 0 + i * 64 * 1 = 64 * i by omega]
    have tw := pWrite (rowFact b1 XS 5 :: fx) D e heo ((3 + next + i : Nat) : Int) (some ⟨b1, 64 * i, none⟩) (XS.length - i * 64) (((entB b).drop (64 * i)).take 64) (hXb i hi2)
    have hwo := heo.write ((3 + next + i : Nat) : Int) (((entB b).drop (64 * i)).take 64)
    have hwl : (e.write ((3 + next + i : Nat) : Int) (((entB b).drop (64 * i)).take 64)).2.l.length = d.l.length := by rw [write_len_eq, hel2]
    rw [hl] at tw
    rw [DS.wrN] at hwr
    refine Tri.use tw [0] rfl (args_ren rfl rfl) ⟨OSub.ren rfl rfl, trivial⟩ (fun f hf => by first | exact hf | cases hf | simp_all) (fun u hu => ?_)
    generalize e.write ((3 + next + i : Nat) : Int) (((entB b).drop (64 * i)).take 64) = ew at *
    conv => whnf
    repeat' ((first | refine w1 (h := ?_) | refine w2 ?_ ?_ | refine w3 (h := ?_) | refine w4 (h := ?_) | refine hD _ _ ?_ | refine hL _ _ ?_ | (intro h; (try simp only [n1, n2, n3, n4, n5, n6] at h); first | (exfalso; omega) | (cases h; done) | skip)) <;> (conv => whnf))
    · have hne := h
      rw [if_neg h] at hwr
      rw [hwr]
      refine Tri.of_code tok Try.func80 rfl rfl rfl (by decide) rfl (Nat.le_of_ble_eq_true rfl) ?_
      conv => whnf
      repeat' ((first | refine w1 (h := ?_) | refine w2 ?_ ?_ | refine w3 (h := ?_) | refine w4 (h := ?_) | refine hD _ _ ?_ | refine hL _ _ ?_ | (intro h; (try simp only [n1, n2, n3, n4, n5, n6] at h); first | (exfalso; omega) | (cases h; done) | skip)) <;> (conv => whnf))
      exact ⟨⟨none, []⟩, hne, sto_ret (s := ⟨kept, wait, used, next, decide (ew.1 = 6)⟩) ⟨.row xs, .no, hK, hW⟩ 2 3 (by decide) (by repeat first | exact List.mem_cons_self .. | apply List.mem_cons_of_mem) (by repeat first | exact List.mem_cons_self .. | apply List.mem_cons_of_mem) (fun xs e => by cases e <;> exact (by repeat first | exact List.mem_cons_self .. | apply List.mem_cons_of_mem)) (fun xs e => by cases e <;> exact (by repeat first | exact List.mem_cons_self .. | apply List.mem_cons_of_mem)) (fun ρ => rfl) rfl (SEq.ren rfl rfl) (fun _ h => nomatch h)⟩
    · rw [if_pos (by omega)] at hwr
      exact ⟨(i + 1, ew.2), [0, 1, 2, 3], ⟨⟨by simp only; omega, hwo, hwl, hwr⟩, by simp only; omega⟩, rfl, ⟨SEq.ren rfl rfl, fun _ _ _ => rfl, fun _ _ _ => rfl, fun _ _ _ => rfl, fun _ _ _ => rfl, SEq.eq rfl, trivial⟩, ⟨OSub.ren rfl rfl, OSub.ren rfl rfl, OSub.ren rfl rfl,trivial⟩, fun f hf => hf⟩
  · have hit : i = takesN b.length := by omega
    subst hit
    rw [entS_end] at hwr
    replace hwr : d.wrN ((3 + next : Nat) : Int) (entS b) = (0, e) := hwr
    rw [hwr]
    have tc := tSClone (rowFact b1 XS 5 :: fx) A cap b (hB.mono fun f hf => List.mem_cons_of_mem _ hf) (by omega)
    refine draw_opaque fun KD hD => ?_
    refine draw_new tok (by kernel_rfl) [.any 0, .any 1, .any 2, .any 3, .any 5, .load 4, .one 6, .one 7, .one 8, .any 9, .any 10, .last 11] [11] ([(1, SObj.cells [.v (ptrV D), .s 2 0 kept.length xs.length, .v (.slice none 0 0), .v (.int .i64 used), .v (.int .i64 ((next : Int) + (takesN b.length : Nat))), .v (.bool false)] 115)]) (by kernel_rfl) rfl (rfl) (by repeat' (first | exact trivial | refine And.intro rfl ?_)) ?_
    conv => whnf
    repeat' ((first | refine w1 (h := ?_) | refine w2 ?_ ?_ | refine w3 (h := ?_) | refine w4 (h := ?_) | refine hD _ _ ?_ | refine hL _ _ ?_ | (intro h; (try simp only [n1, n2, n3, n4, n5, n6] at h); first | (exfalso; omega) | (cases h; done) | skip)) <;> (conv => whnf))
    refine Tri.use tc [] rfl (fun _ _ _ => rfl) trivial (fun f hf => hf) (fun u hu => ?_)
    obtain ⟨hob, hof⟩ := hu
    generalize u.1 = o at *
    generalize u.2 = f2 at *
    conv => whnf
    refine appFK_go ?_
    conv => whnf
    repeat' ((first | refine w1 (h := ?_) | refine w2 ?_ ?_ | refine w3 (h := ?_) | refine w4 (h := ?_) | refine hD _ _ ?_ | refine hL _ _ ?_ | (intro h; (try simp only [n1, n2, n3, n4, n5, n6] at h); first | (exfalso; omega) | (cases h; done) | skip)) <;> (conv => whnf))
    rename_i m0 sp0
    have hw0 : wait = [] := hW
    subst hw0
    have hrl : ([o.v] ++ sp0).length = 1 + m0 := by rw [List.length_append, h, Nat.mul_one]; rfl
    have hW2 : RowI.Ok ([] ++ [o]) (.row ([o.v] ++ sp0)) := ⟨rfl, by simp⟩
    exact ⟨⟨some o, f2⟩, ⟨rfl, hob, hof⟩, sto_ret (s := ⟨kept, [] ++ [o], used, next + takesN b.length, false⟩) ⟨.row xs, .row _, hK, hW2⟩ 2 5 (by decide) (by repeat first | exact List.mem_cons_self .. | apply List.mem_cons_of_mem) (by repeat first | exact List.mem_cons_self .. | apply List.mem_cons_of_mem) (fun xs e => by cases e <;> exact (by repeat first | exact List.mem_cons_self .. | apply List.mem_cons_of_mem)) (fun xs e => by cases e <;> exact (by repeat first | exact List.mem_cons_self .. | apply List.mem_cons_of_mem)) (fun ρ => by rw [← hrl]; first | rfl | (rw [← hwl]; rfl)) rfl (fun _ _ _ => rfl) (fun g hg => List.mem_append_left _ hg)⟩
set_option maxHeartbeats 4000000 in
theorem tSAppG3 (fx : List Fact) (D : Nat) (d : DS) (hd : d.Ok) (kept wait : List BsV) (used next : Nat) (xs ys : List Value) (hK : RowI.Ok kept (.row xs)) (hW : RowI.Ok wait (.row ys)) (A : Option Addr) (cap : Nat) (b : List UInt8) (hB : BytesAt fx A b) (hb : b.length ≤ 200) (hroom : next + takesN b.length + 3 ≤ d.l.length) (hw : wait.length ≤ 100000) :
    Tri Try.prog 52 [.p 1 0, .v (.slice A b.length cap)] [(1, .cells [.v (ptrV D), .s 2 0 kept.length xs.length, .s 3 0 wait.length ys.length, .v (.int .i64 used), .v (.int .i64 next), .v (.bool false)] 115), (2, .row xs 22), (3, .row ys 22), pdk 0 D d] 4 fx
      (RetE (α := AppR) 2 (fun x => x.Ok (d.wrN ((3 + next : Nat) : Int) (entS b)).1 b) (fun x => .v (.int .i64 (d.wrN ((3 + next : Nat) : Int) (entS b)).1))
        (fun x => [pdk 0 D (d.wrN ((3 + next : Nat) : Int) (entS b)).2, (1, .abs (stoA D (x.sto ⟨kept, wait, used, next, false⟩ (d.wrN ((3 + next : Nat) : Int) (entS b)).1 (takesN b.length))))]) 2 (fun x => x.f)) := by
  have hlen := hd.len
  have htk : takesN b.length ≤ 4 := by unfold takesN; omega
  have htp := takesN_pos b.length
  have htg := takesN_ge b.length
  have hel := entB_length b
  obtain ⟨n, hn⟩ : ∃ n, 64 * takesN b.length = 2 + b.length + n := ⟨64 * takesN b.length - 2 - b.length, by omega⟩
  have hn2 : ((takesN b.length : Int) * 64 - 2 - (b.length : Int)).toNat = n := by omega
  have hent : putB b.length 2 ++ b ++ List.replicate n 0 = entB b := by
    rw [entB_put, show 64 * takesN b.length - 2 - b.length = n by omega]
  have tcat := tCat3F fx A cap b (putB b.length 2) hB n (64 * takesN b.length) (putB_length _ _) (by omega) (by omega)
  rw [hent] at tcat
  refine Tri.of_code tok Try.func52 rfl rfl rfl (by decide) rfl (Nat.le_of_ble_eq_true rfl) ?_
  conv => whnf
  repeat' ((first | refine w1 (h := ?_) | refine w2 ?_ ?_ | refine w3 (h := ?_) | refine w4 (h := ?_) | refine hD _ _ ?_ | refine hL _ _ ?_ | (intro h; (try simp only [n1, n2, n3, n4, n5, n6] at h); first | (exfalso; omega) | (cases h; done) | skip)) <;> (conv => whnf))
  refine Tri.use ((tSTakes fx b.length (by omega)).one) [] rfl (fun _ _ _ => rfl) trivial (fun f hf => by first | exact hf | cases hf) (fun u hu => ?_)
  conv => whnf
  repeat' ((first | refine w1 (h := ?_) | refine w2 ?_ ?_ | refine w3 (h := ?_) | refine w4 (h := ?_) | refine hD _ _ ?_ | refine hL _ _ ?_ | (intro h; (try simp only [n1, n2, n3, n4, n5, n6] at h); first | (exfalso; omega) | (cases h; done) | skip)) <;> (conv => whnf))
  refine Tri.of_code tok Try.func51 rfl rfl rfl (by decide) rfl (Nat.le_of_ble_eq_true rfl) ?_
  conv => whnf
  repeat' ((first | refine w1 (h := ?_) | refine w2 ?_ ?_ | refine w3 (h := ?_) | refine w4 (h := ?_) | refine hD _ _ ?_ | refine hL _ _ ?_ | (intro h; (try simp only [n1, n2, n3, n4, n5, n6] at h); first | (exfalso; omega) | (cases h; done) | skip)) <;> (conv => whnf))
  refine draw_opaque fun KD hD => ?_
  refine draw_solid tok (by kernel_rfl) [.any 0, .any 1, .any 2, .any 6, .any 7, .any 8, .load 3, .load 9, .one 4, .any 5, .any 10, .any 11] [] (by kernel_rfl) rfl rfl (by repeat' (first | exact trivial | refine And.intro rfl ?_)) ?_
  conv => whnf
  repeat' ((first | refine w1 (h := ?_) | refine w2 ?_ ?_ | refine w3 (h := ?_) | refine w4 (h := ?_) | refine hD _ _ ?_ | refine hL _ _ ?_ | (intro h; (try simp only [n1, n2, n3, n4, n5, n6] at h); first | (exfalso; omega) | (cases h; done) | skip)) <;> (conv => whnf))
  refine Tri.use (pSize fx D d) [0] rfl (args_ren rfl rfl) ⟨OSub.ren rfl rfl, trivial⟩ (fun f hf => by first | exact hf | cases hf | simp_all) (fun u hu => ?_)
  conv => whnf
  repeat' ((first | refine w1 (h := ?_) | refine w2 ?_ ?_ | refine w3 (h := ?_) | refine w4 (h := ?_) | refine hD _ _ ?_ | refine hL _ _ ?_ | (intro h; (try simp only [n1, n2, n3, n4, n5, n6] at h); first | (exfalso; omega) | (cases h; done) | skip)) <;> (conv => whnf))
  refine Tri.use ((tSTakes fx b.length (by omega)).one) [] rfl (fun _ _ _ => rfl) trivial (fun f hf => by first | exact hf | cases hf) (fun u hu => ?_)
  conv => whnf
  repeat' ((first | refine w1 (h := ?_) | refine w2 ?_ ?_ | refine w3 (h := ?_) | refine w4 (h := ?_) | refine hD _ _ ?_ | refine hL _ _ ?_ | (intro h; (try simp only [n1, n2, n3, n4, n5, n6] at h); first | (exfalso; omega) | (cases h; done) | skip)) <;> (conv => whnf))
  refine draw_join (α := Nat × List Value) (fun x => ⟨[(0, .p 1 0), (1, .v (.slice A b.length cap)), (5, .v (.int .i64 (takesN b.length : Nat))), (6, .v (.slice (some ⟨x.1, 0, none⟩) (64 * takesN b.length) x.2.length))], [pdk 0 D d, (1, .cells [.v (ptrV D), .s 2 0 kept.length xs.length, .s 3 0 wait.length ys.length, .v (.int .i64 used), .v (.int .i64 next), .v (.bool false)] 115), (2, .row xs 22), (3, .row ys 22)], 4, rowFact x.1 x.2 5 :: fx⟩)
    (fun x => x.2.take (64 * takesN b.length) = (entB b).map bv ∧ 64 * takesN b.length ≤ x.2.length) (fun KJ hJ => ?_) ?_
  · refine draw_tree tok (by kernel_rfl) (.step (.any 0) <| .step (.any 1) <| .step (.any 3) <| .step (.any 4) <| .step (.any 5) <| .step (.any 6) <| .step (.any 7) <| .step (.any 8) <| .step (.any 9) <| .two 2 (.step (.one 10) <| .step (.one 11) <| .step (.one 12) <| .step (.any 13) .done) 10 (.step (.one 2) <| .step (.one 11) <| .step (.one 12) <| .step (.any 13) .done)) [] [] (by kernel_rfl) rfl rfl trivial ?_
    conv => whnf
    repeat' ((first | refine w1 (h := ?_) | refine w2 ?_ ?_ | refine w3 (h := ?_) | refine w4 (h := ?_) | refine hD _ _ ?_ | refine hL _ _ ?_ | (intro h; (try simp only [n1, n2, n3, n4, n5, n6] at h); first | (exfalso; omega) | (cases h; done) | skip)) <;> (conv => whnf))
    refine And.intro ?_ ?_
    all_goals
      conv => whnf
      repeat' ((first | refine w1 (h := ?_) | refine w2 ?_ ?_ | refine w3 (h := ?_) | refine w4 (h := ?_) | refine hD _ _ ?_ | refine hL _ _ ?_ | (intro h; (try simp only [n1, n2, n3, n4, n5, n6] at h); first | (exfalso; omega) | (cases h; done) | skip)) <;> (conv => whnf))
      try rw [hn2]
      refine Tri.use (tSPut fx b.length 2 (by omega) (by omega) (by omega)) [] rfl (args_ren rfl rfl) trivial (fun f hf => by first | exact hf | cases hf | simp_all) (fun u hu => ?_)
      conv => whnf
      repeat' ((first | refine w1 (h := ?_) | refine w2 ?_ ?_ | refine w3 (h := ?_) | refine w4 (h := ?_) | refine hD _ _ ?_ | refine hL _ _ ?_ | (intro h; (try simp only [n1, n2, n3, n4, n5, n6] at h); first | (exfalso; omega) | (cases h; done) | skip)) <;> (conv => whnf))
      try rw [hn2]
      first
        | refine Tri.use tcat [6, 4, 5] rfl (args_ren rfl rfl) ⟨OSub.ren rfl rfl, OSub.ren rfl rfl, OSub.ren rfl rfl, trivial⟩ (fun f hf => hf) (fun u hu => ?_)
        | refine Tri.use tcat [6, 5, 4] rfl (args_ren rfl rfl) ⟨OSub.ren rfl rfl, OSub.ren rfl rfl, OSub.ren rfl rfl, trivial⟩ (fun f hf => hf) (fun u hu => ?_)
      conv => whnf
      repeat' ((first | refine w1 (h := ?_) | refine w2 ?_ ?_ | refine w3 (h := ?_) | refine w4 (h := ?_) | refine hD _ _ ?_ | refine hL _ _ ?_ | (intro h; (try simp only [n1, n2, n3, n4, n5, n6] at h); first | (exfalso; omega) | (cases h; done) | skip)) <;> (conv => whnf))
      exact hJ _ u [0, 1, 2, 3] hu ⟨rfl, ⟨SEq.ren rfl rfl, fun _ _ _ => rfl, fun _ _ _ => rfl, fun _ _ _ => rfl, trivial⟩, ⟨OSub.ren rfl rfl, OSub.ren rfl rfl, OSub.ren rfl rfl, OSub.ren rfl rfl,trivial⟩, fun f hf => hf⟩
  rintro ⟨b1, XS⟩ ⟨hX1, hX2⟩
  simp only at hX1 hX2
  have hXb : ∀ i, i < takesN b.length → BytesAt (rowFact b1 XS 5 :: fx) (some ⟨b1, 64 * i, none⟩) (((entB b).drop (64 * i)).take 64) := fun i hi => by
    have hl : (((entB b).drop (64 * i)).take 64).length = 64 := by rw [List.length_take, List.length_drop]; omega
    refine BytesAt.row (List.mem_cons_self ..) ?_
    rw [hl, List.map_take, List.map_drop, ← hX1, List.drop_take, List.take_take, Nat.min_eq_left (by omega)]
  clear tcat
  conv => whnf
  repeat' ((first | refine w1 (h := ?_) | refine w2 ?_ ?_ | refine w3 (h := ?_) | refine w4 (h := ?_) | refine hD _ _ ?_ | refine hL _ _ ?_ | (intro h; (try simp only [n1, n2, n3, n4, n5, n6] at h); first | (exfalso; omega) | (cases h; done) | skip)) <;> (conv => whnf))
  refine loop_by tok (α := Nat × DS) (fun x => match x with | (i, e) => ⟨[(0, .p 1 0), (1, .v (.slice A b.length cap)), (5, .v (.int .i64 (takesN b.length : Nat))), (6, .v (.slice (some ⟨b1, 0, none⟩) (64 * takesN b.length) XS.length)), (45, .v (.int .i64 (takesN b.length : Nat))), (46, .v (.int .i64 (i : Int)))], [pdk 0 D e, (1, .cells [.v (ptrV D), .s 2 0 kept.length xs.length, .s 3 0 wait.length ys.length, .v (.int .i64 used), .v (.int .i64 next), .v (.bool false)] 115), (2, .row xs 22), (3, .row ys 22)], 4, rowFact b1 XS 5 :: fx⟩)
    (fun x => x.1 ≤ takesN b.length ∧ x.2.Ok ∧ x.2.l.length = d.l.length ∧ d.wrN ((3 + next : Nat) : Int) (entS b) = x.2.wrN ((3 + next + x.1 : Nat) : Int) ((entS b).drop x.1)) (fun x => takesN b.length - x.1) (0, d) [0, 1, 2, 3] ⟨Nat.zero_le _, hd, rfl, rfl⟩
    ⟨rfl, ⟨SEq.ren rfl rfl, fun _ _ _ => rfl, fun _ _ _ => rfl, fun _ _ _ => rfl, fun _ _ _ => rfl, fun _ _ _ => rfl, trivial⟩, ⟨OSub.ren rfl rfl, OSub.ren rfl rfl, OSub.ren rfl rfl, OSub.ren rfl rfl,trivial⟩, fun f hf => hf⟩ ?_
  rintro ⟨i, e⟩ ⟨hi, heo, hel2, hwr⟩
  simp only at hi heo hel2 hwr
  conv => whnf
  repeat' ((first | refine w1 (h := ?_) | refine w2 ?_ ?_ | refine w3 (h := ?_) | refine w4 (h := ?_) | refine hD _ _ ?_ | refine hL _ _ ?_ | (intro h; (try simp only [n1, n2, n3, n4, n5, n6] at h); first | (exfalso; omega) | (cases h; done) | skip)) <;> (conv => whnf))
  · have hi2 : i < takesN b.length := by omega
    have hl : (((entB b).drop (64 * i)).take 64).length = 64 := by rw [List.length_take, List.length_drop]; omega
    rw [entS_get hi2] at hwr
    have q3 : (i + 1) * 64 - i * 64 = 64 := by omega
    have q4 : ¬ XS.length = i * 64 := by omega
    refine draw_opaque fun KD hD => ?_
    refine draw_solid tok (by kernel_rfl) [.any 0, .any 1, .any 2, .any 4, .any 5, .any 6, .any 9, .any 11, .any 12, .any 13, .any 14, .any 15, .any 16, .any 17, .load 3, .one 7, .any 8, .any 10, .one 18, .any 19] [] (by kernel_rfl) rfl rfl (by repeat' (first | exact trivial | refine And.intro rfl ?_)) ?_
    conv => whnf
    repeat' ((first | (refine Exists.intro ((i + 1) * 64) (And.intro (by omega) ?_)) | (refine Exists.intro (i * 64) (And.intro (by omega) ?_)) | refine w1 (h := ?_) | refine w2 ?_ ?_ | refine w3 (h := ?_) | refine w4 (h := ?_) | refine hD _ _ ?_ | refine hL _ _ ?_ | (intro h; (try simp only [n1, n2, n3, n4, n5, n6] at h); first | (exfalso; omega) | (cases h; done) | skip)) <;> (conv => whnf))
    rw [q3, Option.map_some, if_neg q4, add_at, show 0 + i * 64 * 1 = 64 * i by omega]
    have tw := pWrite (rowFact b1 XS 5 :: fx) D e heo ((3 + next + i : Nat) : Int) (some ⟨b1, 64 * i, none⟩) (XS.length - i * 64) (((entB b).drop (64 * i)).take 64) (hXb i hi2)
    have hwo := heo.write ((3 + next + i : Nat) : Int) (((entB b).drop (64 * i)).take 64)
    have hwl : (e.write ((3 + next + i : Nat) : Int) (((entB b).drop (64 * i)).take 64)).2.l.length = d.l.length := by rw [write_len_eq, hel2]
    rw [hl] at tw
    rw [DS.wrN] at hwr
    refine Tri.use tw [0] rfl (args_ren rfl rfl) ⟨OSub.ren rfl rfl, trivial⟩ (fun f hf => by first | exact hf | cases hf | simp_all) (fun u hu => ?_)
    generalize e.write ((3 + next + i : Nat) : Int) (((entB b).drop (64 * i)).take 64) = ew at *
    conv => whnf
    repeat' ((first | refine w1 (h := ?_) | refine w2 ?_ ?_ | refine w3 (h := ?_) | refine w4 (h := ?_) | refine hD _ _ ?_ | refine hL _ _ ?_ | (intro h; (try simp only [n1, n2, n3, n4, n5, n6] at h); first | (exfalso; omega) | (cases h; done) | skip)) <;> (conv => whnf))
    · have hne := h
      rw [if_neg h] at hwr
      rw [hwr]
      refine Tri.of_code tok Try.func80 rfl rfl rfl (by decide) rfl (Nat.le_of_ble_eq_true rfl) ?_
      conv => whnf
      repeat' ((first | refine w1 (h := ?_) | refine w2 ?_ ?_ | refine w3 (h := ?_) | refine w4 (h := ?_) | refine hD _ _ ?_ | refine hL _ _ ?_ | (intro h; (try simp only [n1, n2, n3, n4, n5, n6] at h); first | (exfalso; omega) | (cases h; done) | skip)) <;> (conv => whnf))
      exact ⟨⟨none, []⟩, hne, sto_ret (s := ⟨kept, wait, used, next, decide (ew.1 = 6)⟩) ⟨.row xs, .row ys, hK, hW⟩ 2 3 (by decide) (by repeat first | exact List.mem_cons_self .. | apply List.mem_cons_of_mem) (by repeat first | exact List.mem_cons_self .. | apply List.mem_cons_of_mem) (fun xs e => by cases e <;> exact (by repeat first | exact List.mem_cons_self .. | apply List.mem_cons_of_mem)) (fun xs e => by cases e <;> exact (by repeat first | exact List.mem_cons_self .. | apply List.mem_cons_of_mem)) (fun ρ => rfl) rfl (SEq.ren rfl rfl) (fun _ h => nomatch h)⟩
    · rw [if_pos (by omega)] at hwr
      exact ⟨(i + 1, ew.2), [0, 1, 2, 3], ⟨⟨by simp only; omega, hwo, hwl, hwr⟩, by simp only; omega⟩, rfl, ⟨SEq.ren rfl rfl, fun _ _ _ => rfl, fun _ _ _ => rfl, fun _ _ _ => rfl, fun _ _ _ => rfl, SEq.eq rfl, trivial⟩, ⟨OSub.ren rfl rfl, OSub.ren rfl rfl, OSub.ren rfl rfl, OSub.ren rfl rfl,trivial⟩, fun f hf => hf⟩
  · have hit : i = takesN b.length := by omega
    subst hit
    rw [entS_end] at hwr
    replace hwr : d.wrN ((3 + next : Nat) : Int) (entS b) = (0, e) := hwr
    rw [hwr]
    have tc := tSClone (rowFact b1 XS 5 :: fx) A cap b (hB.mono fun f hf => List.mem_cons_of_mem _ hf) (by omega)
    refine draw_opaque fun KD hD => ?_
    refine draw_new tok (by kernel_rfl) [.any 0, .any 1, .any 2, .any 3, .any 5, .load 4, .one 6, .one 7, .one 8, .any 9, .any 10, .last 11] [11] ([(1, SObj.cells [.v (ptrV D), .s 2 0 kept.length xs.length, .s 3 0 wait.length ys.length, .v (.int .i64 used), .v (.int .i64 ((next : Int) + (takesN b.length : Nat))), .v (.bool false)] 115)]) (by kernel_rfl) rfl (rfl) (by repeat' (first | exact trivial | refine And.intro rfl ?_)) ?_
    conv => whnf
    repeat' ((first | refine w1 (h := ?_) | refine w2 ?_ ?_ | refine w3 (h := ?_) | refine w4 (h := ?_) | refine hD _ _ ?_ | refine hL _ _ ?_ | (intro h; (try simp only [n1, n2, n3, n4, n5, n6] at h); first | (exfalso; omega) | (cases h; done) | skip)) <;> (conv => whnf))
    refine Tri.use tc [] rfl (fun _ _ _ => rfl) trivial (fun f hf => hf) (fun u hu => ?_)
    obtain ⟨hob, hof⟩ := hu
    generalize u.1 = o at *
    generalize u.2 = f2 at *
    conv => whnf
    refine appFK_go ?_
    conv => whnf
    repeat' ((first | refine w1 (h := ?_) | refine w2 ?_ ?_ | refine w3 (h := ?_) | refine w4 (h := ?_) | refine hD _ _ ?_ | refine hL _ _ ?_ | (intro h; (try simp only [n1, n2, n3, n4, n5, n6] at h); first | (exfalso; omega) | (cases h; done) | skip)) <;> (conv => whnf))
    obtain ⟨hw1, hw2⟩ := hW
    refine And.intro ⟨by omega, hw2, by omega, fun u hu => by rw [List.mem_singleton.1 hu]; rfl⟩ ?_
    intro m0 sp0 hsp0
    conv => whnf
    repeat' ((first | refine w1 (h := ?_) | refine w2 ?_ ?_ | refine w3 (h := ?_) | refine w4 (h := ?_) | refine hD _ _ ?_ | refine hL _ _ ?_ | (intro h; (try simp only [n1, n2, n3, n4, n5, n6] at h); first | (exfalso; omega) | (cases h; done) | skip)) <;> (conv => whnf))
    have hrl : (ys.take (wait.length * 1) ++ [o.v] ++ sp0).length = wait.length + 1 + m0 := by simp only [List.length_append, List.length_take, List.length_singleton, hsp0, Nat.mul_one, Nat.min_eq_left hw2]
    have hW2 : RowI.Ok (wait ++ [o]) (.row (ys.take (wait.length * 1) ++ [o.v] ++ sp0)) := ⟨by rw [Nat.mul_one, hw1, List.take_left' (by simp)]; simp, by rw [hrl]; simp⟩
    have hwl : (wait ++ [o]).length = wait.length + 1 := by simp
    exact ⟨⟨some o, f2⟩, ⟨rfl, hob, hof⟩, sto_ret (s := ⟨kept, wait ++ [o], used, next + takesN b.length, false⟩) ⟨.row xs, .row _, hK, hW2⟩ 2 5 (by decide) (by repeat first | exact List.mem_cons_self .. | apply List.mem_cons_of_mem) (by repeat first | exact List.mem_cons_self .. | apply List.mem_cons_of_mem) (fun xs e => by cases e <;> exact (by repeat first | exact List.mem_cons_self .. | apply List.mem_cons_of_mem)) (fun xs e => by cases e <;> exact (by repeat first | exact List.mem_cons_self .. | apply List.mem_cons_of_mem)) (fun ρ => by rw [← hrl]; first | rfl | (rw [← hwl]; rfl)) rfl (fun _ _ _ => rfl) (fun g hg => List.mem_append_left _ hg)⟩
/-- An entry is appended; if a write fails, it doesn't wait. -/
theorem tSAppend (fx : List Fact) (D : Nat) (d : DS) (hd : d.Ok) (s : StS) (ho : s.over = false) (A : Option Addr) (cap : Nat) (b : List UInt8) (hB : BytesAt fx A b) (hb : b.length ≤ 200) (hroom : s.next + takesN b.length + 3 ≤ d.l.length) (hw : s.wait.length ≤ 100000) :
    Tri Try.prog 52 [.p 1 0, .v (.slice A b.length cap)] [pdk 0 D d, (1, .abs (stoA D s))] 2 fx
      (RetE (α := AppR) 2 (fun x => x.Ok (d.wrN ((3 + s.next : Nat) : Int) (entS b)).1 b) (fun x => .v (.int .i64 (d.wrN ((3 + s.next : Nat) : Int) (entS b)).1))
        (fun x => [pdk 0 D (d.wrN ((3 + s.next : Nat) : Int) (entS b)).2, (1, .abs (stoA D (x.sto s (d.wrN ((3 + s.next : Nat) : Int) (entS b)).1 (takesN b.length))))]) 2 (fun x => x.f)) := by
  refine Tri.toldE (told_sto D s) trivial 1 (by repeat first | exact List.mem_cons_self .. | apply List.mem_cons_of_mem) fun v => ?_
  obtain ⟨K, W, hK, hW⟩ := v
  obtain ⟨kept, wait, used, next, over⟩ := s
  simp only at ho hroom hw hK hW
  subst ho
  rcases K with _ | xs <;> rcases W with _ | ys
  · exact tSAppG0 fx D d hd kept wait used next hK hW A cap b hB hb hroom hw
  · exact tSAppG1 fx D d hd kept wait used next ys hK hW A cap b hB hb hroom hw
  · exact tSAppG2 fx D d hd kept wait used next xs hK hW A cap b hB hb hroom hw
  · exact tSAppG3 fx D d hd kept wait used next xs ys hK hW A cap b hB hb hroom hw
end Go.Proofs.Ytekgjjanikicnaa.Sx

namespace Go.Proofs.Ytekgjjanikicnaa.Sx
open Go
set_option maxRecDepth 100000
set_option linter.unusedSimpArgs false
set_option linter.unusedVariables false
theorem Up.wrN {N : Nat} : ∀ {l : List Sec} {d : DS} {i : Nat}, Up N d → i + l.length ≤ N → (∀ b ∈ l, b.length = 64) → (d.wrN (i : Int) l).1 = 0 ∧ Up N (d.wrN (i : Int) l).2
  | [], d, i, h, _, _ => ⟨rfl, h⟩
  | b :: r, d, i, h, hi, hb => by
    rw [List.length_cons] at hi
    have hb0 := hb b (List.mem_cons_self ..)
    have e := h.write_eq (i := i) (by omega) hb0
    unfold DS.wrN
    rw [e, if_pos rfl]
    exact Up.wrN (i := i + 1) (h.put (by omega) hb0) (by omega) (fun c hc => hb c (List.mem_cons_of_mem _ hc))
theorem Up.com {N : Nat} {d : DS} (h : Up N d) (hN : 3 ≤ N) (n u : Nat) : (d.com n u).1 = 0 ∧ Up N (d.com n u).2 := by
  have hs : d.sync.1 = 0 := by rw [h.sync_eq]
  unfold DS.com
  rw [if_pos hs, ← com_save]
  obtain ⟨a, b, _⟩ := h.sync.save (p := 0) (by omega) (b := putB n 8 ++ putB u 8) (by simp)
  exact ⟨a, b⟩
/-- A steady store is opened. -/
theorem tSOpenSted (fx : List Fact) (D : Nat) (d : DS) {N : Nat} {K : List (List UInt8)} (h : Sted N K d) (hd : d.down = false) :
    Tri Try.prog 48 [.v (ptrV D)] [pdk 0 D d] 1 fx (RetE (α := List BsV × List Fact) 1 (fun x => x.1.map BsV.bs = K ∧ ∀ b ∈ x.1, b.Fit (x.2 ++ fx)) (fun _ => .tup [.p 1 0, .k .i64 0])
      (fun x => [pdk 0 D d, (1, .abs (stoA D ⟨x.1, [], useN K, useN K, false⟩))]) 2 (fun x => x.2)) := by
  have hl := h.len
  have hf := h.fits
  have hol := h.ok.len
  have hu := useN_ge K
  have hm := mkU_mkV (n := K.length) (u := useN K) (by omega)
  have hg := h.get
  rw [← hl] at hg
  have T := tSOpen fx D d h.ok hd (by omega) d (h.mend hd) h.ok hd rfl
  rw [h.val, hg, show (mkU (mkL K)).toNat = useN K by rw [show mkU (mkL K) = useN K from hm]; rfl] at T
  refine T.conv.mono fun y hp m f ⟨⟨kept, gs⟩, hx, e1, e2, e3, e4⟩ => ?_
  subst e1 e2 e3 e4
  cases kept with
  | none => exact absurd hx (by simp [OpR.Ok])
  | some l =>
    obtain ⟨hx1, hx2⟩ := hx
    exact ⟨(l, _), ⟨(Option.some.inj hx1).symm, hx2⟩, Ret.mk [0, 1] [pdk 0 D d, (1, .abs (stoA D ⟨l, [], useN K, useN K, false⟩))] (Fold.refl _) rfl (SEq.ren rfl rfl) ⟨OSub.ren rfl rfl, OSub.ren rfl rfl, trivial⟩ (fun _ h => h)⟩
/-- On a disk whose power stays, an entry that there is room for is appended. -/
theorem tSAppUp (fx : List Fact) (D : Nat) (d : DS) {N : Nat} {K w : List (List UInt8)} (hU : Up N d) (hL : Live N K w d) (s : StS) (hs : s.over = false) (hn : s.next = useN K + useN w) (A : Option Addr) (cap : Nat) (b : List UInt8) (hB : BytesAt fx A b) (hb : b.length ≤ 200) (hroom : s.next + takesN b.length + 3 ≤ N) (hw : s.wait.length ≤ 100000) :
    Tri Try.prog 52 [.p 1 0, .v (.slice A b.length cap)] [pdk 0 D d, (1, .abs (stoA D s))] 2 fx
      (RetE (α := BsV × DS × List Fact) 2 (fun x => x.1.bs = b ∧ x.1.Fit x.2.2 ∧ Up N x.2.1 ∧ Live N K (w ++ [b]) x.2.1) (fun x => .k .i64 0)
        (fun x => [pdk 0 D x.2.1, (1, .abs (stoA D ⟨s.kept, s.wait ++ [x.1], s.used, s.next + takesN b.length, false⟩))]) 2 (fun x => x.2.2)) := by
  have hlen := hU.len
  have T := tSAppend fx D d hU.ok s hs A cap b hB hb (by omega) hw
  obtain ⟨a1, a2⟩ := hU.wrN (i := 3 + s.next) (l := entS b) (by rw [entS_length]; omega) entS_sec
  have hl2 := hL.append_ok hb (by omega) (by rw [← hn]; exact a1)
  rw [← hn] at hl2
  refine T.conv.mono fun y hp m f ⟨⟨o, gs⟩, hx, e1, e2, e3, e4⟩ => ?_
  subst e1 e2 e3 e4
  cases o with
  | none => exact absurd a1 hx
  | some o =>
    obtain ⟨_, hx1, hx2⟩ := hx
    obtain ⟨kept, wait, used, next, over⟩ := s
    simp only at hs
    subst hs
    exact ⟨(o, _, _), ⟨hx1, hx2, a2, hl2⟩, Ret.mk [0, 1] [pdk 0 D _, (1, .abs (stoA D ⟨kept, wait ++ [o], used, next + takesN b.length, false⟩))] (Fold.refl _) rfl (fun _ _ _ => by simp only [den]; rw [a1]) ⟨OSub.ren rfl rfl, OSub.ren rfl rfl, trivial⟩ (fun _ h => h)⟩
/-- And what waits is kept. -/
theorem tSComUp (fx : List Fact) (D : Nat) (d : DS) {N : Nat} {K w : List (List UInt8)} (hU : Up N d) (hL : Live N K w d) (s : StS) (hs : s.over = false) (hn : s.next = useN K + useN w) (hk : s.kept.map BsV.bs = K) (hw : s.wait.map BsV.bs = w) (hu : s.used = useN K) (hwl : s.wait.length ≤ 100000) :
    Tri Try.prog 56 [.p 1 0] [pdk 0 D d, (1, .abs (stoA D s))] 2 fx
      (RetE (α := DS) 2 (fun e => Up N e ∧ Live N (K ++ w) [] e) (fun _ => .k .i64 0) (fun e => [pdk 0 D e, (1, .abs (stoA D ⟨s.kept ++ s.wait, [], s.next, s.next, false⟩))]) 2 (fun _ => [])) := by
  have hlen := hU.len
  have hok := hU.ok.len
  have hf := hL.fits
  have hge := useN_ge K
  have hkl : s.kept.length = K.length := by rw [← hk, List.length_map]
  have hwl2 : s.wait.length = w.length := by rw [← hw, List.length_map]
  by_cases h0 : s.wait = []
  · have hw0 : w = [] := by rw [← hw, h0]; rfl
    subst hw0
    have T := tSComNo fx D d s 0 (.inr ⟨hs, h0, rfl⟩)
    refine T.conv.mono fun y hp m f ⟨_, _, e1, e2, e3, e4⟩ => ?_
    subst e1 e2 e3 e4
    obtain ⟨kept, wait, used, next, over⟩ := s
    simp only at hs h0 hn hu
    subst hs h0
    rw [useN_nil, Nat.add_zero] at hn
    subst hu hn
    refine ⟨d, ⟨hU, by rw [List.append_nil]; exact hL⟩, ?_⟩
    simp only [List.append_nil]
    exact Ret.mk [0, 1] [pdk 0 D d, (1, .abs (stoA D ⟨kept, [], useN K, useN K, false⟩))] (Fold.refl _) rfl (fun _ _ _ => rfl) ⟨OSub.ren rfl rfl, OSub.ren rfl rfl, trivial⟩ (fun _ h => h)
  · have T := tSCommit fx D d hU.ok s hs h0 (by omega) hwl (by omega)
    obtain ⟨a1, a2⟩ := hU.com (by omega) (s.kept.length + s.wait.length) s.next
    have hsy : d.sync.1 = 0 := by rw [hU.sync_eq]
    have hmk : mkV (s.kept.length + s.wait.length) s.next = mkL (K ++ w) := by
      rw [mkL, useN_append, List.length_append, hkl, hwl2, hn]
    have hc : d.com (s.kept.length + s.wait.length) s.next = d.sync.2.putN ((0 : Nat) : Int) (mkL (K ++ w)) 3 := by rw [← hmk]; exact if_pos hsy
    have hl2 : Live N (K ++ w) [] (d.com (s.kept.length + s.wait.length) s.next).2 := by
      rcases hL.commit hsy with ⟨e, _⟩ | ⟨_, e⟩
      · rw [← hc] at e; exact absurd a1 e
      · rw [hc]; exact e
    refine T.conv.mono fun y hp m f ⟨_, _, e1, e2, e3, e4⟩ => ?_
    subst e1 e2 e3 e4
    have hsc : s.com (d.com (s.kept.length + s.wait.length) s.next).1 = ⟨s.kept ++ s.wait, [], s.next, s.next, false⟩ := if_pos a1
    refine ⟨_, ⟨a2, hl2⟩, ?_⟩
    rw [hsc]
    exact Ret.mk [0, 1] [pdk 0 D _, (1, .abs (stoA D ⟨s.kept ++ s.wait, [], s.next, s.next, false⟩))] (Fold.refl _) rfl (fun _ _ _ => by simp only [den]; rw [a1]) ⟨OSub.ren rfl rfl, OSub.ren rfl rfl, trivial⟩ (fun _ h => h)
theorem tAwake15 (fx : List Fact) : Tri Try.prog 47 [] [] 0 fx (Ret 0 (.b true) [] 0 []) := by
  have hst := new_sted (N := 9) (by decide) (by decide)
  have hU := Up.new (N := 9) (by decide)
  refine Tri.of_code tok Try.func47 rfl rfl rfl (by decide) rfl (Nat.le_of_ble_eq_true rfl) ?_
  conv => whnf
  repeat' ((first | refine w1 (h := ?_) | refine w2 ?_ ?_ | refine w3 (h := ?_) | refine w4 (h := ?_) | refine hD _ _ ?_ | refine hL _ _ ?_ | (intro h; (try simp only [n1, n2, n3, n4, n5, n6] at h); first | (exfalso; omega) | (cases h; done) | skip)) <;> (conv => whnf))
  refine Tri.use (pNew fx 9 (by decide)) [] rfl (args_ren rfl rfl) trivial (fun f hf => hf) (fun D _ => ?_)
  conv => whnf
  repeat' ((first | refine w1 (h := ?_) | refine w2 ?_ ?_ | refine w3 (h := ?_) | refine w4 (h := ?_) | refine hD _ _ ?_ | refine hL _ _ ?_ | (intro h; (try simp only [n1, n2, n3, n4, n5, n6] at h); first | (exfalso; omega) | (cases h; done) | skip)) <;> (conv => whnf))
  refine Tri.use (tSOpenSted fx D (DS.new 9) hst rfl) [0] rfl (args_ren rfl rfl) ⟨OSub.ren rfl rfl, trivial⟩ (fun f hf => hf) (fun u hu => ?_)
  obtain ⟨l, fl⟩ := u
  obtain ⟨hl, hlf⟩ := hu
  obtain rfl : l = [] := by simpa using hl
  conv => whnf
  refine appFK_go ?_
  conv => whnf
  repeat' ((first | refine w1 (h := ?_) | refine w2 ?_ ?_ | refine w3 (h := ?_) | refine w4 (h := ?_) | refine hD _ _ ?_ | refine hL _ _ ?_ | (intro h; (try simp only [n1, n2, n3, n4, n5, n6] at h); first | (exfalso; omega) | (cases h; done) | skip)) <;> (conv => whnf))
  refine Tri.lend 2 (xs := [.int .u8 97]) (T := 5) (fun b1 => [.p 1 0, .v (.slice (some ⟨b1, 0, none⟩) 1 1)]) (by repeat first | exact List.mem_cons_self .. | apply List.mem_cons_of_mem) (rowOf.cells fun ρ => rfl) (fun _ => rfl) fun b1 => ?_
  refine Tri.use (tSAppUp (rowFact b1 [.int .u8 97] 5 :: (fl ++ fx)) D (DS.new 9) hU (hst.live rfl) ⟨[], [], useN [], useN [], false⟩ rfl rfl (some ⟨b1, 0, none⟩) 1 [97] (BytesAt.row (List.mem_cons_self ..) rfl) (by decide) (by decide) (by decide)) [0, 1] rfl (args_ren rfl rfl) ⟨OSub.ren rfl rfl, OSub.ren rfl rfl, trivial⟩ (fun f hf => hf) fun u hu => ?_
  obtain ⟨o, e, f2⟩ := u
  obtain ⟨h1, h2, h3, h4⟩ := hu
  simp only at h1 h2 h3 h4
  conv => whnf
  refine appFK_go ?_
  conv => whnf
  refine And.intro rfl ?_
  conv => whnf
  repeat' ((first | refine w1 (h := ?_) | refine w2 ?_ ?_ | refine w3 (h := ?_) | refine w4 (h := ?_) | refine hD _ _ ?_ | refine hL _ _ ?_ | (intro h; (try simp only [n1, n2, n3, n4, n5, n6] at h); first | (exfalso; omega) | (cases h; done) | skip)) <;> (conv => whnf))
  have hw : [o].map BsV.bs = [[97]] := by simp [h1]
  refine Tri.use (tSComUp _ D e h3 h4 ⟨[], [] ++ [o], useN [], useN [] + takesN [(97 : UInt8)].length, false⟩ rfl rfl rfl hw rfl (by simp)) [0, 1] rfl (args_ren rfl rfl) ⟨OSub.ren rfl rfl, OSub.ren rfl rfl, trivial⟩ (fun f hf => hf) fun e2 _ => ?_
  conv => whnf
  repeat' ((first | refine w1 (h := ?_) | refine w2 ?_ ?_ | refine w3 (h := ?_) | refine w4 (h := ?_) | refine hD _ _ ?_ | refine hL _ _ ?_ | (intro h; (try simp only [n1, n2, n3, n4, n5, n6] at h); first | (exfalso; omega) | (cases h; done) | skip)) <;> (conv => whnf))
  refine Tri.use (tSLen _ D _) [1] rfl (args_ren rfl rfl) ⟨OSub.ren rfl rfl, trivial⟩ (fun f hf => hf) fun _ _ => ?_
  conv => whnf
  repeat' ((first | refine w1 (h := ?_) | refine w2 ?_ ?_ | refine w3 (h := ?_) | refine w4 (h := ?_) | refine hD _ _ ?_ | refine hL _ _ ?_ | (intro h; (try simp only [n1, n2, n3, n4, n5, n6] at h); first | (exfalso; omega) | (cases h; done) | skip)) <;> (conv => whnf))
  exact Ret.mk [] [] (Fold.drop (by simp)) rfl (fun _ _ _ => rfl) trivial (fun _ h => nomatch h)
end Go.Proofs.Ytekgjjanikicnaa.Sx

namespace Go.Proofs.Ytekgjjanikicnaa.Sx
open Go
set_option maxRecDepth 100000
set_option linter.unusedSimpArgs false
set_option linter.unusedVariables false
set_option maxHeartbeats 4000000 in
theorem tStoreNil (fx : List Fact) (i : Int) (A : Option Addr) (cap : Nat) (b : List UInt8) :
    Tri Try.prog 19 [.v (.int .i64 i), .v (.slice A b.length cap)] [] 0 fx (Ret 0 (.b true) [] 0 []) := by
  have hst := new_sted (N := 30) (by decide) (by decide)
  have hU := Up.new (N := 30) (by decide)
  refine Tri.of_code tok Try.func19 rfl rfl rfl (by decide) rfl (Nat.le_of_ble_eq_true rfl) ?_
  conv => whnf
  repeat' ((first | refine w1 (h := ?_) | refine w2 ?_ ?_ | refine w3 (h := ?_) | refine w4 (h := ?_) | refine hD _ _ ?_ | refine hL _ _ ?_ | (intro h; (try simp only [n1, n2, n3, n4, n5, n6] at h); first | (exfalso; omega) | (cases h; done) | skip)) <;> (conv => whnf))
  refine Tri.use (tAwake15 fx).one [] rfl (args_ren rfl rfl) trivial (fun f hf => by first | exact hf | cases hf | simp_all) (fun u hu => ?_)
  conv => whnf
  repeat' ((first | refine w1 (h := ?_) | refine w2 ?_ ?_ | refine w3 (h := ?_) | refine w4 (h := ?_) | refine hD _ _ ?_ | refine hL _ _ ?_ | (intro h; (try simp only [n1, n2, n3, n4, n5, n6] at h); first | (exfalso; omega) | (cases h; done) | skip)) <;> (conv => whnf))
  · refine Tri.use (tAwake15 fx).one [] rfl (args_ren rfl rfl) trivial (fun f hf => by first | exact hf | cases hf | simp_all) (fun u hu => ?_)
    conv => whnf
    repeat' ((first | refine w1 (h := ?_) | refine w2 ?_ ?_ | refine w3 (h := ?_) | refine w4 (h := ?_) | refine hD _ _ ?_ | refine hL _ _ ?_ | (intro h; (try simp only [n1, n2, n3, n4, n5, n6] at h); first | (exfalso; omega) | (cases h; done) | skip)) <;> (conv => whnf))
    exact Ret.noneS rfl (fun _ _ => rfl) (fun _ h => nomatch h)
  refine Tri.use ((tSEntryNil fx i).one) [] rfl (fun _ _ _ => rfl) trivial (fun f hf => by first | exact hf | cases hf) (fun u hu => ?_)
  conv => whnf
  repeat' ((first | refine w1 (h := ?_) | refine w2 ?_ ?_ | refine w3 (h := ?_) | refine w4 (h := ?_) | refine hD _ _ ?_ | refine hL _ _ ?_ | (intro h; (try simp only [n1, n2, n3, n4, n5, n6] at h); first | (exfalso; omega) | (cases h; done) | skip)) <;> (conv => whnf))
  refine Tri.use ((tSOpenNil fx).one) [] rfl (fun _ _ _ => rfl) trivial (fun f hf => by first | exact hf | cases hf) (fun u hu => ?_)
  conv => whnf
  repeat' ((first | refine w1 (h := ?_) | refine w2 ?_ ?_ | refine w3 (h := ?_) | refine w4 (h := ?_) | refine hD _ _ ?_ | refine hL _ _ ?_ | (intro h; (try simp only [n1, n2, n3, n4, n5, n6] at h); first | (exfalso; omega) | (cases h; done) | skip)) <;> (conv => whnf))
  refine Tri.use ((tSAppNil fx A b.length cap).one) [] rfl (fun _ _ _ => rfl) trivial (fun f hf => by first | exact hf | cases hf) (fun u hu => ?_)
  conv => whnf
  repeat' ((first | refine w1 (h := ?_) | refine w2 ?_ ?_ | refine w3 (h := ?_) | refine w4 (h := ?_) | refine hD _ _ ?_ | refine hL _ _ ?_ | (intro h; (try simp only [n1, n2, n3, n4, n5, n6] at h); first | (exfalso; omega) | (cases h; done) | skip)) <;> (conv => whnf))
  refine Tri.use ((tSComNil fx).one) [] rfl (fun _ _ _ => rfl) trivial (fun f hf => by first | exact hf | cases hf) (fun u hu => ?_)
  conv => whnf
  repeat' ((first | refine w1 (h := ?_) | refine w2 ?_ ?_ | refine w3 (h := ?_) | refine w4 (h := ?_) | refine hD _ _ ?_ | refine hL _ _ ?_ | (intro h; (try simp only [n1, n2, n3, n4, n5, n6] at h); first | (exfalso; omega) | (cases h; done) | skip)) <;> (conv => whnf))
  refine Tri.use ((tSLenNil fx).one) [] rfl (fun _ _ _ => rfl) trivial (fun f hf => by first | exact hf | cases hf) (fun u hu => ?_)
  conv => whnf
  repeat' ((first | refine w1 (h := ?_) | refine w2 ?_ ?_ | refine w3 (h := ?_) | refine w4 (h := ?_) | refine hD _ _ ?_ | refine hL _ _ ?_ | (intro h; (try simp only [n1, n2, n3, n4, n5, n6] at h); first | (exfalso; omega) | (cases h; done) | skip)) <;> (conv => whnf))
  refine Tri.use ((tSWaitsNil fx).one) [] rfl (fun _ _ _ => rfl) trivial (fun f hf => by first | exact hf | cases hf) (fun u hu => ?_)
  conv => whnf
  repeat' ((first | refine w1 (h := ?_) | refine w2 ?_ ?_ | refine w3 (h := ?_) | refine w4 (h := ?_) | refine hD _ _ ?_ | refine hL _ _ ?_ | (intro h; (try simp only [n1, n2, n3, n4, n5, n6] at h); first | (exfalso; omega) | (cases h; done) | skip)) <;> (conv => whnf))
  refine Tri.use ((tSRoomNil fx).one) [] rfl (fun _ _ _ => rfl) trivial (fun f hf => by first | exact hf | cases hf) (fun u hu => ?_)
  conv => whnf
  repeat' ((first | refine w1 (h := ?_) | refine w2 ?_ ?_ | refine w3 (h := ?_) | refine w4 (h := ?_) | refine hD _ _ ?_ | refine hL _ _ ?_ | (intro h; (try simp only [n1, n2, n3, n4, n5, n6] at h); first | (exfalso; omega) | (cases h; done) | skip)) <;> (conv => whnf))
  refine Tri.use (pNew fx 30 (by decide)) [] rfl (args_ren rfl rfl) trivial (fun f hf => hf) (fun D _ => ?_)
  conv => whnf
  repeat' ((first | refine w1 (h := ?_) | refine w2 ?_ ?_ | refine w3 (h := ?_) | refine w4 (h := ?_) | refine hD _ _ ?_ | refine hL _ _ ?_ | (intro h; (try simp only [n1, n2, n3, n4, n5, n6] at h); first | (exfalso; omega) | (cases h; done) | skip)) <;> (conv => whnf))
  refine Tri.use (tSOpenSted fx D (DS.new 30) hst rfl) [0] rfl (args_ren rfl rfl) ⟨OSub.ren rfl rfl, trivial⟩ (fun f hf => hf) (fun u hu => ?_)
  obtain ⟨l, fl⟩ := u
  obtain ⟨hl, hlf⟩ := hu
  obtain rfl : l = [] := by simpa using hl
  conv => whnf
  refine appFK_go ?_
  conv => whnf
  repeat' ((first | refine w1 (h := ?_) | refine w2 ?_ ?_ | refine w3 (h := ?_) | refine w4 (h := ?_) | refine hD _ _ ?_ | refine hL _ _ ?_ | (intro h; (try simp only [n1, n2, n3, n4, n5, n6] at h); first | (exfalso; omega) | (cases h; done) | skip)) <;> (conv => whnf))
  refine Tri.shareK 2 ?_
  conv => whnf
  intro b1
  conv => whnf
  refine Tri.use (tSAppUp (rowFact b1 [.int .u8 1, .int .u8 2, .int .u8 3] 5 :: (fl ++ fx)) D (DS.new 30) hU (hst.live rfl) ⟨[], [], useN [], useN [], false⟩ rfl rfl (some ⟨b1, 0, none⟩) 3 [1, 2, 3] (BytesAt.row (List.mem_cons_self ..) rfl) (by decide) (by decide) (by decide)) [0, 1] rfl (args_ren rfl rfl) ⟨OSub.ren rfl rfl, OSub.ren rfl rfl, trivial⟩ (fun f hf => hf) fun u hu => ?_
  obtain ⟨o, e, f2⟩ := u
  obtain ⟨h1, h2, h3, h4⟩ := hu
  simp only at h1 h2 h3 h4
  conv => whnf
  refine appFK_go ?_
  conv => whnf
  repeat' ((first | refine w1 (h := ?_) | refine w2 ?_ ?_ | refine w3 (h := ?_) | refine w4 (h := ?_) | refine hD _ _ ?_ | refine hL _ _ ?_ | (intro h; (try simp only [n1, n2, n3, n4, n5, n6] at h); first | (exfalso; omega) | (cases h; done) | skip)) <;> (conv => whnf))
  have hw : [o].map BsV.bs = [[1, 2, 3]] := by simp [h1]
  refine Tri.use (tSComUp _ D e h3 h4 ⟨[], [] ++ [o], useN [], useN [] + takesN [(1 : UInt8), 2, 3].length, false⟩ rfl rfl rfl hw rfl (by simp)) [0, 1] rfl (args_ren rfl rfl) ⟨OSub.ren rfl rfl, OSub.ren rfl rfl, trivial⟩ (fun f hf => hf) fun e2 _ => ?_
  conv => whnf
  repeat' ((first | refine w1 (h := ?_) | refine w2 ?_ ?_ | refine w3 (h := ?_) | refine w4 (h := ?_) | refine hD _ _ ?_ | refine hL _ _ ?_ | (intro h; (try simp only [n1, n2, n3, n4, n5, n6] at h); first | (exfalso; omega) | (cases h; done) | skip)) <;> (conv => whnf))
  obtain ⟨ob, obs, oc⟩ := o
  simp only at h1
  subst h1
  obtain ⟨ad, rfl⟩ : ∃ ad, ob = some ad := by
    cases ob with
    | none => have := h2.b.1 rfl; cases this
    | some ad => exact ⟨ad, rfl⟩
  refine Tri.use (tSEntryRow (f2 ++ (rowFact b1 [.int .u8 1, .int .u8 2, .int .u8 3] 5 :: (fl ++ fx))) D ⟨[⟨some ad, [1, 2, 3], oc⟩], [], useN [] + takesN [(1 : UInt8), 2, 3].length, useN [] + takesN [(1 : UInt8), 2, 3].length, false⟩ 0 Nat.zero_lt_one (by show 1 ≤ 1000000; decide) ad rfl (h2.mono fun f hf => List.mem_append_left _ hf) (by show 3 < 1000000000; decide)) [1] rfl (args_ren rfl rfl) ⟨OSub.ren rfl rfl, trivial⟩ (fun f hf => hf) fun ys hys => ?_
  conv => whnf
  repeat' ((first | refine w1 (h := ?_) | refine w2 ?_ ?_ | refine w3 (h := ?_) | refine w4 (h := ?_) | refine hD _ _ ?_ | refine hL _ _ ?_ | (intro h; (try simp only [n1, n2, n3, n4, n5, n6] at h); first | (exfalso; omega) | (cases h; done) | skip)) <;> (conv => whnf))
  obtain ⟨hy1, hy2⟩ := hys
  replace hy2 : 3 ≤ ys.length := hy2
  refine And.intro (by show 0 < 3; decide) ?_
  conv => whnf
  repeat' ((first | refine w1 (h := ?_) | refine w2 ?_ ?_ | refine w3 (h := ?_) | refine w4 (h := ?_) | refine hD _ _ ?_ | refine hL _ _ ?_ | (intro h; (try simp only [n1, n2, n3, n4, n5, n6] at h); first | (exfalso; omega) | (cases h; done) | skip)) <;> (conv => whnf))
  refine And.intro (by show 0 + 0 * 1 + 1 ≤ ys.length; omega) ?_
  conv => whnf
  repeat' ((first | refine w1 (h := ?_) | refine w2 ?_ ?_ | refine w3 (h := ?_) | refine w4 (h := ?_) | refine hD _ _ ?_ | refine hL _ _ ?_ | (intro h; (try simp only [n1, n2, n3, n4, n5, n6] at h); first | (exfalso; omega) | (cases h; done) | skip)) <;> (conv => whnf))
  refine Tri.use (tSEntry (f2 ++ (rowFact b1 [.int .u8 1, .int .u8 2, .int .u8 3] 5 :: (fl ++ fx))) D ⟨[⟨some ad, [1, 2, 3], oc⟩], [], useN [] + takesN [(1 : UInt8), 2, 3].length, useN [] + takesN [(1 : UInt8), 2, 3].length, false⟩ 0 Nat.zero_lt_one (by show 1 ≤ 1000000; decide) (h2.mono fun f hf => List.mem_append_left _ hf) (by show 3 < 1000000000; decide)) [1] rfl (args_ren rfl rfl) ⟨OSub.ren rfl rfl, trivial⟩ (fun f hf => hf) fun u hu => ?_
  obtain ⟨z, f3⟩ := u
  obtain ⟨hz1, hz2⟩ := hu
  obtain ⟨zB, zbs, zc⟩ := z
  replace hz1 : zbs = [1, 2, 3] := hz1
  subst hz1
  have hzb := hz2.b
  conv => whnf
  refine appFK_go ?_
  conv => whnf
  repeat' ((first | refine w1 (h := ?_) | refine w2 ?_ ?_ | refine w3 (h := ?_) | refine w4 (h := ?_) | refine hD _ _ ?_ | refine hL _ _ ?_ | (intro h; (try simp only [n1, n2, n3, n4, n5, n6] at h); first | (exfalso; omega) | (cases h; done) | skip)) <;> (conv => whnf))
  refine Tri.lend 4 (xs := [.int .u8 1, .int .u8 2, .int .u8 3]) (T := 5) (fun b2 => [.v (.slice zB 3 zc), .v (.slice (some ⟨b2, 0, none⟩) 3 3)]) (by repeat first | exact List.mem_cons_self .. | apply List.mem_cons_of_mem) (rowOf.cells fun ρ => rfl) (fun _ => rfl) fun b2 => ?_
  have ts := tSame (rowFact b2 [.int .u8 1, .int .u8 2, .int .u8 3] 5 :: (f3 ++ (f2 ++ (rowFact b1 [.int .u8 1, .int .u8 2, .int .u8 3] 5 :: (fl ++ fx))))) zB (some ⟨b2, 0, none⟩) zc 3 [1, 2, 3] [1, 2, 3] (hzb.mono fun f hf => List.mem_cons_of_mem _ hf) (BytesAt.row (List.mem_cons_self ..) rfl) (by decide)
  rw [decide_eq_true (rfl : ([1, 2, 3] : List UInt8) = [1, 2, 3])] at ts
  refine Tri.use ts.one [] rfl (args_ren rfl rfl) trivial (fun f hf => hf) fun _ _ => ?_
  conv => whnf
  refine And.intro rfl ?_
  conv => whnf
  repeat' ((first | refine w1 (h := ?_) | refine w2 ?_ ?_ | refine w3 (h := ?_) | refine w4 (h := ?_) | refine hD _ _ ?_ | refine hL _ _ ?_ | (intro h; (try simp only [n1, n2, n3, n4, n5, n6] at h); first | (exfalso; omega) | (cases h; done) | skip)) <;> (conv => whnf))
  exact Ret.mk [] [] (Fold.drop (by simp)) rfl (fun _ _ _ => rfl) trivial (fun _ h => nomatch h)
end Go.Proofs.Ytekgjjanikicnaa.Sx
