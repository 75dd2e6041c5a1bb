/- Lemmas of this proof, part 3: 7 texts joined. -/
import Derived.Test.YtekgjjanikicnaaStoreAnyLawB2
import Derived.Test.YtekgjjanikicnaaStoreAnyLawB1
import Derived.Test.YtekgjjanikicnaaSxO
import Derived.Test.YtekgjjanikicnaaSxW
namespace Go.Proofs.Ytekgjjanikicnaa.Sx
open Go
set_option maxRecDepth 100000
set_option linter.unusedSimpArgs false
set_option linter.unusedVariables false
theorem tSTakesR (fx : List Fact) (A : Option Addr) (n cap : Nat) (hn : n < 1000000000000) : Tri Try.prog 53 [.v (.slice A n cap)] [] 0 fx (Ret 0 (.v (.int .i64 (takesN n : Nat))) [] 0 []) := by
  refine Tri.of_code tok Try.func53 rfl rfl rfl (by decide) rfl (Nat.le_of_ble_eq_true rfl) ?_
  conv => whnf
  repeat' ((first | refine w1 (h := ?_) | refine w2 ?_ ?_ | refine w3 (h := ?_) | refine w4 (h := ?_) | refine hD _ _ ?_ | refine hL _ _ ?_ | (intro h; (try simp only [n1, n2, n3, n4, n5, n6] at h); first | (exfalso; omega) | (cases h; done) | skip)) <;> (conv => whnf))
  refine Ret.noneS rfl (fun _ _ => ?_) (fun _ h => nomatch h)
  simp only [den, takesN]
  congr 1
theorem tSame15 (fx : List Fact) (A B : Option Addr) (ca cb : Nat) (a b : List BsV) (hA : PartsAt fx A a) (hB : PartsAt fx B b) (hl : a.length < 1000000) (hs : ∀ o ∈ a, o.bs.length < 1000000) :
    Tri Try.prog 49 [.v (.slice A a.length ca), .v (.slice B b.length cb)] [] 0 fx (RetE (α := Unit) 0 (fun _ => True) (fun _ => .v (.bool (decide (a.map BsV.bs = b.map BsV.bs)))) (fun _ => []) 0 (fun _ => [])) := by
  refine Tri.one ?_
  refine Tri.of_code tok Try.func49 rfl rfl rfl (by decide) rfl (Nat.le_of_ble_eq_true rfl) ?_
  conv => whnf
  repeat' ((first | refine w1 (h := ?_) | refine w2 ?_ ?_ | refine w3 (h := ?_) | refine w4 (h := ?_) | refine hD _ _ ?_ | refine hL _ _ ?_ | (intro h; (try simp only [n1, n2, n3, n4, n5, n6] at h); first | (exfalso; omega) | (cases h; done) | skip)) <;> (conv => whnf))
  · refine Ret.noneS rfl (fun ρ _ => ?_) (fun _ h => nomatch h)
    have hne : a.map BsV.bs ≠ b.map BsV.bs := fun e => by
      have := congrArg List.length e
      rw [List.length_map, List.length_map] at this
      omega
    simp [den, hne]
  have hlen : a.length = b.length := by omega
  refine loop_by tok (α := Nat) (fun i => ⟨[(0, .v (.slice A a.length ca)), (1, .v (.slice B b.length cb)), (5, .v (.int .i64 (i : Int)))], [], 0, fx⟩) (fun i => i ≤ a.length ∧ (a.take i).map BsV.bs = (b.take i).map BsV.bs) (fun i => a.length - i) 0 [] ⟨Nat.zero_le _, rfl⟩ ⟨rfl, ⟨(fun _ _ _ => rfl), (fun _ _ _ => rfl), (fun _ _ _ => rfl), trivial⟩, trivial, fun f hf => hf⟩ ?_
  rintro i ⟨hi, he⟩
  conv => whnf
  repeat' ((first | refine w1 (h := ?_) | refine w2 ?_ ?_ | refine w3 (h := ?_) | refine w4 (h := ?_) | refine hD _ _ ?_ | refine hL _ _ ?_ | (intro h; (try simp only [n1, n2, n3, n4, n5, n6] at h); first | (exfalso; omega) | (cases h; done) | skip)) <;> (conv => whnf))
  · have h1 : i < a.length := by omega
    have h2 : i < b.length := by omega
    obtain ⟨ad, rfl, hfa, hca⟩ := hA.get h1
    obtain ⟨bd, rfl, hfb, hcb⟩ := hB.get h2
    refine draw_opaque fun KD hD => ?_
    refine draw_new tok (by kernel_rfl) [.any 0, .any 1, .any 2, .any 4, .any 5, .any 6, .load 3, .one 7, .one 8, .any 9] [] ([]) (by kernel_rfl) rfl (rfl) (by repeat' (first | exact trivial | refine And.intro rfl ?_)) ?_
    conv => whnf
    repeat' ((first | (refine Exists.intro _ (And.intro hca ?_)) | (refine Exists.intro _ (And.intro hcb ?_)) | refine w1 (h := ?_) | refine w2 ?_ ?_ | refine w3 (h := ?_) | refine w4 (h := ?_) | refine hD _ _ ?_ | refine hL _ _ ?_ | (intro h; (try simp only [n1, n2, n3, n4, n5, n6] at h); first | (exfalso; omega) | (cases h; done) | skip)) <;> (conv => whnf))
    have ts := tSame fx a[i].B b[i].B a[i].cap b[i].cap a[i].bs b[i].bs hfa.b hfb.b (by have := hs _ (List.getElem_mem h1); omega)
    refine Tri.use ts.one [] rfl (fun _ _ _ => rfl) trivial (fun f hf => hf) fun u hu => ?_
    conv => whnf
    repeat' ((first | refine w1 (h := ?_) | refine w2 ?_ ?_ | refine w3 (h := ?_) | refine w4 (h := ?_) | refine hD _ _ ?_ | refine hL _ _ ?_ | (intro h; (try simp only [n1, n2, n3, n4, n5, n6] at h); first | (exfalso; omega) | (cases h; done) | skip)) <;> (conv => whnf))
    · refine Ret.noneS rfl (fun ρ _ => ?_) (fun _ h => nomatch h)
      have hne : a.map BsV.bs ≠ b.map BsV.bs := fun e => by
        have := congrArg (fun l => l[i]?) e
        simp only [List.getElem?_map, List.getElem?_eq_getElem h1, List.getElem?_eq_getElem h2, Option.map_some, Option.some.injEq] at this
        exact h this
      simp [den, hne]
    · refine ⟨i + 1, [], ⟨⟨by omega, ?_⟩, by omega⟩, rfl, ⟨(fun _ _ _ => rfl), (fun _ _ _ => rfl), (fun _ _ _ => rfl), trivial⟩, trivial, fun f hf => hf⟩
      have heq : a[i].bs = b[i].bs := by first | exact h | exact Decidable.of_not_not h
      rw [List.take_succ_eq_append_getElem h1, List.take_succ_eq_append_getElem h2, List.map_append, List.map_append, he]
      simp [heq]
  · refine Ret.noneS rfl (fun ρ _ => ?_) (fun _ h => nomatch h)
    obtain rfl : i = a.length := by omega
    have hab : a.map BsV.bs = b.map BsV.bs := by
      rw [List.take_length, hlen, List.take_length] at he
      exact he
    simp [den, hab]
/-- A row of slices that grows by appending, as it is told. -/
structure GrI where
  l : List BsV
  row : RowI
  gs : List Fact
structure GrI.Pr (fx : List Fact) (x : GrI) : Prop where
  row : x.row.Ok x.l
  fit : ∀ b ∈ x.l, b.Fit (x.gs ++ fx)
/-- What a list of slices is handed back as. -/
structure KpR where
  A : Option Addr
  l : List BsV
  cap : Nat
  f : List Fact
theorem tSKeptRaw (fx : List Fact) (D : Nat) (s : StS) (hk : s.kept.length ≤ 100000) (hf : ∀ b ∈ s.kept, b.Fit fx) (hb : ∀ b ∈ s.kept, b.bs.length ≤ 1000000) :
    Tri Try.prog 50 [.p 0 0] [(0, .abs (stoA D s))] 1 fx
      (RetE (α := GrI) 1 (fun x => x.Pr fx ∧ x.l.map BsV.bs = s.kept.map BsV.bs) (fun x => x.row.sv 1 x.l.length) (fun x => (0, .abs (stoA D s)) :: x.row.hp 1) 2 (fun x => x.gs)) := by
  refine Tri.of_code tok Try.func50 rfl rfl rfl (by decide) rfl (Nat.le_of_ble_eq_true rfl) ?_
  conv => whnf
  repeat' ((first | refine w1 (h := ?_) | refine w2 ?_ ?_ | refine w3 (h := ?_) | refine w4 (h := ?_) | refine hD _ _ ?_ | refine hL _ _ ?_ | (intro h; (try simp only [n1, n2, n3, n4, n5, n6] at h); first | (exfalso; omega) | (cases h; done) | skip)) <;> (conv => whnf))
  refine loop_by tok (α := GrI) (fun x => match x with
    | ⟨l, .no, gs⟩ => ⟨[(0, .p 0 0), (3, .v (.slice none 0 0)), (4, .v (.int .i64 ((l.length : Nat) : Int)))], [(0, .abs (stoA D s))], 2, gs ++ fx⟩
    | ⟨l, .row xs, gs⟩ => ⟨[(0, .p 0 0), (3, .s 1 0 l.length xs.length), (4, .v (.int .i64 ((l.length : Nat) : Int)))], [(0, .abs (stoA D s)), (1, .row xs 22)], 2, gs ++ fx⟩)
    (fun x => x.Pr fx ∧ x.l.length ≤ s.kept.length ∧ x.l.map BsV.bs = (s.kept.take x.l.length).map BsV.bs) (fun x => s.kept.length - x.l.length) ⟨[], .no, []⟩ [0] ⟨⟨rfl, fun b hb => by cases hb⟩, Nat.zero_le _, rfl⟩
    ⟨rfl, ⟨SEq.ren rfl rfl, fun _ _ _ => rfl, fun _ _ _ => rfl, trivial⟩, ⟨OSub.ren rfl rfl, trivial⟩, fun f hf => hf⟩ ?_
  rintro ⟨l, row, gs⟩ ⟨⟨hrow, hfit⟩, hl, he⟩
  simp only at hrow hfit hl he
  rcases row with _ | xs
  · have hfm : ∀ b ∈ s.kept, b.Fit (gs ++ fx) := fun b hb => (hf b hb).mono fun f hf => List.mem_append_right _ hf
    conv => whnf
    repeat' ((first | refine w1 (h := ?_) | refine w2 ?_ ?_ | refine w3 (h := ?_) | refine w4 (h := ?_) | refine hD _ _ ?_ | refine hL _ _ ?_ | (intro h; (try simp only [n1, n2, n3, n4, n5, n6] at h); first | (exfalso; omega) | (cases h; done) | skip)) <;> (conv => whnf))
    refine Tri.use (tSLen (gs ++ fx) D s) [0] rfl (args_ren rfl rfl) ⟨OSub.ren rfl rfl, trivial⟩ (fun f hf => by first | exact hf | cases hf | simp_all) (fun u hu => ?_)
    conv => whnf
    repeat' ((first | refine w1 (h := ?_) | refine w2 ?_ ?_ | refine w3 (h := ?_) | refine w4 (h := ?_) | refine hD _ _ ?_ | refine hL _ _ ?_ | (intro h; (try simp only [n1, n2, n3, n4, n5, n6] at h); first | (exfalso; omega) | (cases h; done) | skip)) <;> (conv => whnf))
    · have hlt : l.length < s.kept.length := by omega
      refine Tri.use (tSEntry (gs ++ fx) D s l.length hlt (by omega) (hfm _ (List.getElem_mem hlt)) (by have := hb _ (List.getElem_mem hlt); omega)) [0] rfl (args_ren rfl rfl) ⟨OSub.ren rfl rfl, trivial⟩ (fun f hf => hf) fun u hu => ?_
      obtain ⟨hob, hof⟩ := hu
      generalize u.1 = o at *
      generalize u.2 = f2 at *
      conv => whnf
      refine appFK_go ?_
      conv => whnf
      repeat' ((first | refine w1 (h := ?_) | refine w2 ?_ ?_ | refine w3 (h := ?_) | refine w4 (h := ?_) | refine hD _ _ ?_ | refine hL _ _ ?_ | (intro h; (try simp only [n1, n2, n3, n4, n5, n6] at h); first | (exfalso; omega) | (cases h; done) | skip)) <;> (conv => whnf))
      rename_i m0 sp0
      have hl0 : l = [] := hrow
      have hl1 : l.length = 0 := by rw [hl0]; rfl
      have hrl : ([o.v] ++ sp0).length = l.length + 1 + m0 := by rw [List.length_append, h, Nat.mul_one, hl1]; rfl
      have hrow2 : RowI.Ok (l ++ [o]) (.row ([o.v] ++ sp0)) := by rw [hl0]; exact ⟨rfl, by simp⟩
      have hll : (l ++ [o]).length = l.length + 1 := by simp
      refine ⟨⟨l ++ [o], .row _, f2 ++ gs⟩, [0, 3], ⟨⟨⟨hrow2, fun b hb => ?_⟩, by simp only [hll]; omega, ?_⟩, by simp only [hll]; omega⟩, rfl, ⟨SEq.ren rfl rfl, SEq.ren rfl ?_, SEq.eq ?_, trivial⟩, ⟨OSub.ren rfl rfl, OSub.ren rfl rfl, trivial⟩, fun f hf => by simpa using hf⟩
      · show b.Fit ((f2 ++ gs) ++ fx)
        rw [List.append_assoc]
        rcases List.mem_append.1 hb with hb | hb
        · exact (hfit b hb).mono fun f hf => List.mem_append_right _ hf
        · rw [List.mem_singleton.1 hb]; exact hof
      · simp only [hll]
        rw [List.take_succ_eq_append_getElem hlt, List.map_append, List.map_append, he]
        simp [hob]
      · simp only [ren, sg]
        rw [hll, hrl]
        rw [hl1]
        rfl
      · simp only [hll]; congr 1
    · have hll : l.length = s.kept.length := by omega
      have he2 : l.map BsV.bs = s.kept.map BsV.bs := by rw [he, hll, List.take_length]
      exact ⟨⟨l, .no, gs⟩, ⟨⟨hrow, hfit⟩, he2⟩, Ret.mk [0, 1] [(0, .abs (stoA D s))] (Fold.drop1 (by repeat first | exact List.mem_cons_self .. | apply List.mem_cons_of_mem)) rfl (SEq.ren rfl rfl) ⟨OSub.ren rfl rfl, trivial⟩ (fun g hg => List.mem_append_left _ hg)⟩
  · have hfm : ∀ b ∈ s.kept, b.Fit (gs ++ fx) := fun b hb => (hf b hb).mono fun f hf => List.mem_append_right _ hf
    conv => whnf
    repeat' ((first | refine w1 (h := ?_) | refine w2 ?_ ?_ | refine w3 (h := ?_) | refine w4 (h := ?_) | refine hD _ _ ?_ | refine hL _ _ ?_ | (intro h; (try simp only [n1, n2, n3, n4, n5, n6] at h); first | (exfalso; omega) | (cases h; done) | skip)) <;> (conv => whnf))
    refine Tri.use (tSLen (gs ++ fx) D s) [0] rfl (args_ren rfl rfl) ⟨OSub.ren rfl rfl, trivial⟩ (fun f hf => by first | exact hf | cases hf | simp_all) (fun u hu => ?_)
    conv => whnf
    repeat' ((first | refine w1 (h := ?_) | refine w2 ?_ ?_ | refine w3 (h := ?_) | refine w4 (h := ?_) | refine hD _ _ ?_ | refine hL _ _ ?_ | (intro h; (try simp only [n1, n2, n3, n4, n5, n6] at h); first | (exfalso; omega) | (cases h; done) | skip)) <;> (conv => whnf))
    · have hlt : l.length < s.kept.length := by omega
      refine Tri.use (tSEntry (gs ++ fx) D s l.length hlt (by omega) (hfm _ (List.getElem_mem hlt)) (by have := hb _ (List.getElem_mem hlt); omega)) [0] rfl (args_ren rfl rfl) ⟨OSub.ren rfl rfl, trivial⟩ (fun f hf => hf) fun u hu => ?_
      obtain ⟨hob, hof⟩ := hu
      generalize u.1 = o at *
      generalize u.2 = f2 at *
      conv => whnf
      refine appFK_go ?_
      conv => whnf
      repeat' ((first | refine w1 (h := ?_) | refine w2 ?_ ?_ | refine w3 (h := ?_) | refine w4 (h := ?_) | refine hD _ _ ?_ | refine hL _ _ ?_ | (intro h; (try simp only [n1, n2, n3, n4, n5, n6] at h); first | (exfalso; omega) | (cases h; done) | skip)) <;> (conv => whnf))
      obtain ⟨hx1, hx2⟩ := hrow
      refine And.intro ⟨by omega, hx2, by omega, fun u hu => by rw [List.mem_singleton.1 hu]; rfl⟩ ?_
      intro m0 sp0 hsp0
      conv => whnf
      repeat' ((first | refine w1 (h := ?_) | refine w2 ?_ ?_ | refine w3 (h := ?_) | refine w4 (h := ?_) | refine hD _ _ ?_ | refine hL _ _ ?_ | (intro h; (try simp only [n1, n2, n3, n4, n5, n6] at h); first | (exfalso; omega) | (cases h; done) | skip)) <;> (conv => whnf))
      have hrl : (xs.take (l.length * 1) ++ [o.v] ++ sp0).length = l.length + 1 + m0 := by simp only [List.length_append, List.length_take, List.length_singleton, hsp0, Nat.mul_one, Nat.min_eq_left hx2]
      have hrow2 : RowI.Ok (l ++ [o]) (.row (xs.take (l.length * 1) ++ [o.v] ++ sp0)) := ⟨by rw [Nat.mul_one, hx1, List.take_left' (by simp)]; simp, by rw [hrl]; simp⟩
      have hll : (l ++ [o]).length = l.length + 1 := by simp
      refine ⟨⟨l ++ [o], .row _, f2 ++ gs⟩, [0, 3], ⟨⟨⟨hrow2, fun b hb => ?_⟩, by simp only [hll]; omega, ?_⟩, by simp only [hll]; omega⟩, rfl, ⟨SEq.ren rfl rfl, SEq.ren rfl ?_, SEq.eq ?_, trivial⟩, ⟨OSub.ren rfl rfl, OSub.ren rfl rfl, trivial⟩, fun f hf => by simpa using hf⟩
      · show b.Fit ((f2 ++ gs) ++ fx)
        rw [List.append_assoc]
        rcases List.mem_append.1 hb with hb | hb
        · exact (hfit b hb).mono fun f hf => List.mem_append_right _ hf
        · rw [List.mem_singleton.1 hb]; exact hof
      · simp only [hll]
        rw [List.take_succ_eq_append_getElem hlt, List.map_append, List.map_append, he]
        simp [hob]
      · simp only [ren, sg]
        rw [hll, hrl]
        rfl
      · simp only [hll]; congr 1
    · have hll : l.length = s.kept.length := by omega
      have he2 : l.map BsV.bs = s.kept.map BsV.bs := by rw [he, hll, List.take_length]
      exact ⟨⟨l, .row xs, gs⟩, ⟨⟨hrow, hfit⟩, he2⟩, Ret.mk [0, 1] [(0, .abs (stoA D s)), (1, .row xs 22)] (Fold.drop2 (by repeat first | exact List.mem_cons_self .. | apply List.mem_cons_of_mem) (by repeat first | exact List.mem_cons_self .. | apply List.mem_cons_of_mem)) rfl (SEq.ren rfl rfl) ⟨OSub.ren rfl rfl, OSub.ren rfl rfl, trivial⟩ (fun g hg => List.mem_append_left _ hg)⟩
theorem tSKept (fx : List Fact) (D : Nat) (s : StS) (hk : s.kept.length ≤ 100000) (hf : ∀ b ∈ s.kept, b.Fit fx) (hb : ∀ b ∈ s.kept, b.bs.length ≤ 1000000) :
    Tri Try.prog 50 [.p 0 0] [(0, .abs (stoA D s))] 1 fx
      (RetE (α := KpR) 1 (fun x => PartsAt (x.f ++ fx) x.A x.l ∧ x.l.map BsV.bs = s.kept.map BsV.bs) (fun x => .v (.slice x.A x.l.length x.cap)) (fun x => [(0, .abs (stoA D s))]) 1 (fun x => x.f)) := by
  refine (tSKeptRaw fx D s hk hf hb).conv.share2 fun y h m f ⟨⟨l, row, gs⟩, ⟨⟨hrow, hfit⟩, he⟩, e1, e2, e3, e4⟩ => ?_
  subst e1 e2 e3 e4
  cases row with
  | no =>
    left
    obtain rfl : l = [] := hrow
    exact ⟨⟨none, [], 0, f⟩, ⟨⟨fun _ => rfl, fun ad e => by cases e⟩, he⟩, Ret.mk [0] [(0, .abs (stoA D s))] (Fold.drop1 (by repeat first | exact List.mem_cons_self .. | apply List.mem_cons_of_mem)) rfl (fun _ _ _ => rfl) ⟨OSub.ren rfl rfl, trivial⟩ (fun g hg => hg)⟩
  | row xs =>
    right
    obtain ⟨hx1, hx2⟩ := hrow
    refine ⟨1, xs, 22, (by repeat first | exact List.mem_cons_self .. | apply List.mem_cons_of_mem), fun b1 => ⟨.v (.slice (some ⟨b1, 0, none⟩) l.length xs.length), fun ρ hr => by subst hr; rfl, ⟨some ⟨b1, 0, none⟩, l, xs.length, rowFact b1 xs 22 :: f⟩, ⟨?_, he⟩, ?_⟩⟩
    · refine ⟨fun e => (by cases e), fun ad e i o hi => ?_⟩
      obtain rfl := Option.some.inj e
      refine ⟨(hfit o (List.mem_of_getElem? hi)).mono fun g hg => List.mem_cons_of_mem _ hg, ?_⟩
      have hli : i < l.length := (List.getElem?_eq_some_iff.1 hi).1
      have hxi : xs[i]? = some o.v := by
        have := congrArg (fun l => l[i]?) hx1
        simp only [List.getElem?_map, hi, Option.map_some] at this
        rwa [List.getElem?_take_of_lt hli] at this
      have := rowFact_FC (b := b1) (fx := rowFact b1 xs 22 :: (f ++ fx)) (List.mem_cons_self ..) hxi
      rwa [add_at, Nat.zero_add]
    · exact Ret.mk [0] [(0, .abs (stoA D s))] (Fold.drop1 (by repeat first | exact List.mem_cons_self .. | apply List.mem_cons_of_mem)) rfl (fun _ _ _ => rfl) ⟨OSub.ren rfl rfl, trivial⟩ (fun g hg => hg)
end Go.Proofs.Ytekgjjanikicnaa.Sx

namespace Go.Proofs.Ytekgjjanikicnaa.Sx
open Go
set_option maxRecDepth 100000
set_option linter.unusedSimpArgs false
set_option linter.unusedVariables false
/-- What an append hands back: the entry, as it waits; nothing, if a write failed. -/
structure AppR where
  o : Option BsV
  f : List Fact
def AppR.Ok (e : Int) (b : List UInt8) (x : AppR) : Prop := match x.o with
  | none => e ≠ 0
  | some o => e = 0 ∧ o.bs = b ∧ o.Fit x.f
def AppR.sto (s : StS) (e : Int) (n : Nat) (x : AppR) : StS := match x.o with
  | none => { s with over := decide (e = 6) }
  | some o => { s with wait := s.wait ++ [o], next := s.next + n }
theorem entB_put (b : List UInt8) : entB b = putB b.length 2 ++ b ++ List.replicate (64 * takesN b.length - 2 - b.length) 0 := rfl
theorem entS_get {b : List UInt8} {i : Nat} (h : i < takesN b.length) : (entS b).drop i = ((entB b).drop (64 * i)).take 64 :: (entS b).drop (i + 1) := by
  have hl : i < (entS b).length := by rw [entS_length]; exact h
  rw [List.drop_eq_getElem_cons hl]
  congr 1
  simp [entS]
theorem entS_end {b : List UInt8} : (entS b).drop (takesN b.length) = [] := List.drop_of_length_le (by rw [entS_length]; exact Nat.le_refl _)
set_option maxHeartbeats 4000000 in
theorem tSAppG0 (fx : List Fact) (D : Nat) (d : DS) (hd : d.Ok) (kept wait : List BsV) (used next : Nat) (hK : RowI.Ok kept .no) (hW : RowI.Ok wait .no) (A : Option Addr) (cap : Nat) (b : List UInt8) (hB : BytesAt fx A b) (hb : b.length ≤ 200) (hroom : next + takesN b.length + 3 ≤ d.l.length) (hw : wait.length ≤ 100000) :
    Tri Try.prog 52 [.p 1 0, .v (.slice A b.length cap)] [(1, .cells [.v (ptrV D), .v (.slice none 0 0), .v (.slice none 0 0), .v (.int .i64 used), .v (.int .i64 next), .v (.bool false)] 115), pdk 0 D d] 4 fx
      (RetE (α := AppR) 2 (fun x => x.Ok (d.wrN ((3 + next : Nat) : Int) (entS b)).1 b) (fun x => .v (.int .i64 (d.wrN ((3 + next : Nat) : Int) (entS b)).1))
        (fun x => [pdk 0 D (d.wrN ((3 + next : Nat) : Int) (entS b)).2, (1, .abs (stoA D (x.sto ⟨kept, wait, used, next, false⟩ (d.wrN ((3 + next : Nat) : Int) (entS b)).1 (takesN b.length))))]) 2 (fun x => x.f)) := by
  have hlen := hd.len
  have htk : takesN b.length ≤ 4 := by unfold takesN; omega
  have htp := takesN_pos b.length
  have htg := takesN_ge b.length
  have hel := entB_length b
  obtain ⟨n, hn⟩ : ∃ n, 64 * takesN b.length = 2 + b.length + n := ⟨64 * takesN b.length - 2 - b.length, by omega⟩
  have hn2 : ((takesN b.length : Int) * 64 - 2 - (b.length : Int)).toNat = n := by omega
  have hent : putB b.length 2 ++ b ++ List.replicate n 0 = entB b := by
    rw [entB_put, show 64 * takesN b.length - 2 - b.length = n by omega]
  have tcat := tCat3F fx A cap b (putB b.length 2) hB n (64 * takesN b.length) (putB_length _ _) (by omega) (by omega)
  rw [hent] at tcat
  refine Tri.of_code tok Try.func52 rfl rfl rfl (by decide) rfl (Nat.le_of_ble_eq_true rfl) ?_
  conv => whnf
  repeat' ((first | refine w1 (h := ?_) | refine w2 ?_ ?_ | refine w3 (h := ?_) | refine w4 (h := ?_) | refine hD _ _ ?_ | refine hL _ _ ?_ | (intro h; (try simp only [n1, n2, n3, n4, n5, n6] at h); first | (exfalso; omega) | (cases h; done) | skip)) <;> (conv => whnf))
  refine Tri.use ((tSTakes fx b.length (by omega)).one) [] rfl (fun _ _ _ => rfl) trivial (fun f hf => by first | exact hf | cases hf) (fun u hu => ?_)
  conv => whnf
  repeat' ((first | refine w1 (h := ?_) | refine w2 ?_ ?_ | refine w3 (h := ?_) | refine w4 (h := ?_) | refine hD _ _ ?_ | refine hL _ _ ?_ | (intro h; (try simp only [n1, n2, n3, n4, n5, n6] at h); first | (exfalso; omega) | (cases h; done) | skip)) <;> (conv => whnf))
  refine Tri.of_code tok Try.func51 rfl rfl rfl (by decide) rfl (Nat.le_of_ble_eq_true rfl) ?_
  conv => whnf
  repeat' ((first | refine w1 (h := ?_) | refine w2 ?_ ?_ | refine w3 (h := ?_) | refine w4 (h := ?_) | refine hD _ _ ?_ | refine hL _ _ ?_ | (intro h; (try simp only [n1, n2, n3, n4, n5, n6] at h); first | (exfalso; omega) | (cases h; done) | skip)) <;> (conv => whnf))
  refine draw_opaque fun KD hD => ?_
  refine draw_solid tok (by kernel_rfl) [.any 0, .any 1, .any 2, .any 6, .any 7, .any 8, .load 3, .load 9, .one 4, .any 5, .any 10, .any 11] [] (by kernel_rfl) rfl rfl (by repeat' (first | exact trivial | refine And.intro rfl ?_)) ?_
  conv => whnf
  repeat' ((first | refine w1 (h := ?_) | refine w2 ?_ ?_ | refine w3 (h := ?_) | refine w4 (h := ?_) | refine hD _ _ ?_ | refine hL _ _ ?_ | (intro h; (try simp only [n1, n2, n3, n4, n5, n6] at h); first | (exfalso; omega) | (cases h; done) | skip)) <;> (conv => whnf))
  refine Tri.use (pSize fx D d) [0] rfl (args_ren rfl rfl) ⟨OSub.ren rfl rfl, trivial⟩ (fun f hf => by first | exact hf | cases hf | simp_all) (fun u hu => ?_)
  conv => whnf
  repeat' ((first | refine w1 (h := ?_) | refine w2 ?_ ?_ | refine w3 (h := ?_) | refine w4 (h := ?_) | refine hD _ _ ?_ | refine hL _ _ ?_ | (intro h; (try simp only [n1, n2, n3, n4, n5, n6] at h); first | (exfalso; omega) | (cases h; done) | skip)) <;> (conv => whnf))
  refine Tri.use ((tSTakes fx b.length (by omega)).one) [] rfl (fun _ _ _ => rfl) trivial (fun f hf => by first | exact hf | cases hf) (fun u hu => ?_)
  conv => whnf
  repeat' ((first | refine w1 (h := ?_) | refine w2 ?_ ?_ | refine w3 (h := ?_) | refine w4 (h := ?_) | refine hD _ _ ?_ | refine hL _ _ ?_ | (intro h; (try simp only [n1, n2, n3, n4, n5, n6] at h); first | (exfalso; omega) | (cases h; done) | skip)) <;> (conv => whnf))
  refine draw_join (α := Nat × List Value) (fun x => ⟨[(0, .p 1 0), (1, .v (.slice A b.length cap)), (5, .v (.int .i64 (takesN b.length : Nat))), (6, .v (.slice (some ⟨x.1, 0, none⟩) (64 * takesN b.length) x.2.length))], [pdk 0 D d, (1, .cells [.v (ptrV D), .v (.slice none 0 0), .v (.slice none 0 0), .v (.int .i64 used), .v (.int .i64 next), .v (.bool false)] 115)], 4, rowFact x.1 x.2 5 :: fx⟩)
    (fun x => x.2.take (64 * takesN b.length) = (entB b).map bv ∧ 64 * takesN b.length ≤ x.2.length) (fun KJ hJ => ?_) ?_
  · refine draw_tree tok (by kernel_rfl) (.step (.any 0) <| .step (.any 1) <| .step (.any 3) <| .step (.any 4) <| .step (.any 5) <| .step (.any 6) <| .step (.any 7) <| .step (.any 8) <| .step (.any 9) <| .two 2 (.step (.one 10) <| .step (.one 11) <| .step (.one 12) <| .step (.any 13) .done) 10 (.step (.one 2) <| .step (.one 11) <| .step (.one 12) <| .step (.any 13) .done)) [] [] (by kernel_rfl) rfl rfl trivial ?_
    conv => whnf
    repeat' ((first | refine w1 (h := ?_) | refine w2 ?_ ?_ | refine w3 (h := ?_) | refine w4 (h := ?_) | refine hD _ _ ?_ | refine hL _ _ ?_ | (intro h; (try simp only [n1, n2, n3, n4, n5, n6] at h); first | (exfalso; omega) | (cases h; done) | skip)) <;> (conv => whnf))
    refine And.intro ?_ ?_
    all_goals
      conv => whnf
      repeat' ((first | refine w1 (h := ?_) | refine w2 ?_ ?_ | refine w3 (h := ?_) | refine w4 (h := ?_) | refine hD _ _ ?_ | refine hL _ _ ?_ | (intro h; (try simp only [n1, n2, n3, n4, n5, n6] at h); first | (exfalso; omega) | (cases h; done) | skip)) <;> (conv => whnf))
      try rw [hn2]
      refine Tri.use (tSPut fx b.length 2 (by omega) (by omega) (by omega)) [] rfl (args_ren rfl rfl) trivial (fun f hf => by first | exact hf | cases hf | simp_all) (fun u hu => ?_)
      conv => whnf
      repeat' ((first | refine w1 (h := ?_) | refine w2 ?_ ?_ | refine w3 (h := ?_) | refine w4 (h := ?_) | refine hD _ _ ?_ | refine hL _ _ ?_ | (intro h; (try simp only [n1, n2, n3, n4, n5, n6] at h); first | (exfalso; omega) | (cases h; done) | skip)) <;> (conv => whnf))
      try rw [hn2]
      first
        | refine Tri.use tcat [6, 4, 5] rfl (args_ren rfl rfl) ⟨OSub.ren rfl rfl, OSub.ren rfl rfl, OSub.ren rfl rfl, trivial⟩ (fun f hf => hf) (fun u hu => ?_)
        | refine Tri.use tcat [6, 5, 4] rfl (args_ren rfl rfl) ⟨OSub.ren rfl rfl, OSub.ren rfl rfl, OSub.ren rfl rfl, trivial⟩ (fun f hf => hf) (fun u hu => ?_)
      conv => whnf
      repeat' ((first | refine w1 (h := ?_) | refine w2 ?_ ?_ | refine w3 (h := ?_) | refine w4 (h := ?_) | refine hD _ _ ?_ | refine hL _ _ ?_ | (intro h; (try simp only [n1, n2, n3, n4, n5, n6] at h); first | (exfalso; omega) | (cases h; done) | skip)) <;> (conv => whnf))
      exact hJ _ u [0, 1, 2, 3] hu ⟨rfl, ⟨SEq.ren rfl rfl, fun _ _ _ => rfl, fun _ _ _ => rfl, fun _ _ _ => rfl, trivial⟩, ⟨OSub.ren rfl rfl, OSub.ren rfl rfl, trivial⟩, fun f hf => hf⟩
  rintro ⟨b1, XS⟩ ⟨hX1, hX2⟩
  simp only at hX1 hX2
  have hXb : ∀ i, i < takesN b.length → BytesAt (rowFact b1 XS 5 :: fx) (some ⟨b1, 64 * i, none⟩) (((entB b).drop (64 * i)).take 64) := fun i hi => by
    have hl : (((entB b).drop (64 * i)).take 64).length = 64 := by rw [List.length_take, List.length_drop]; omega
    refine BytesAt.row (List.mem_cons_self ..) ?_
    rw [hl, List.map_take, List.map_drop, ← hX1, List.drop_take, List.take_take, Nat.min_eq_left (by omega)]
  clear tcat
  conv => whnf
  repeat' ((first | refine w1 (h := ?_) | refine w2 ?_ ?_ | refine w3 (h := ?_) | refine w4 (h := ?_) | refine hD _ _ ?_ | refine hL _ _ ?_ | (intro h; (try simp only [n1, n2, n3, n4, n5, n6] at h); first | (exfalso; omega) | (cases h; done) | skip)) <;> (conv => whnf))
  refine loop_by tok (α := Nat × DS) (fun x => match x with | (i, e) => ⟨[(0, .p 1 0), (1, .v (.slice A b.length cap)), (5, .v (.int .i64 (takesN b.length : Nat))), (6, .v (.slice (some ⟨b1, 0, none⟩) (64 * takesN b.length) XS.length)), (45, .v (.int .i64 (takesN b.length : Nat))), (46, .v (.int .i64 (i : Int)))], [pdk 0 D e, (1, .cells [.v (ptrV D), .v (.slice none 0 0), .v (.slice none 0 0), .v (.int .i64 used), .v (.int .i64 next), .v (.bool false)] 115)], 4, rowFact b1 XS 5 :: fx⟩)
    (fun x => x.1 ≤ takesN b.length ∧ x.2.Ok ∧ x.2.l.length = d.l.length ∧ d.wrN ((3 + next : Nat) : Int) (entS b) = x.2.wrN ((3 + next + x.1 : Nat) : Int) ((entS b).drop x.1)) (fun x => takesN b.length - x.1) (0, d) [0, 1, 2, 3] ⟨Nat.zero_le _, hd, rfl, rfl⟩
    ⟨rfl, ⟨SEq.ren rfl rfl, fun _ _ _ => rfl, fun _ _ _ => rfl, fun _ _ _ => rfl, fun _ _ _ => rfl, fun _ _ _ => rfl, trivial⟩, ⟨OSub.ren rfl rfl, OSub.ren rfl rfl, trivial⟩, fun f hf => hf⟩ ?_
  rintro ⟨i, e⟩ ⟨hi, heo, hel2, hwr⟩
  simp only at hi heo hel2 hwr
  conv => whnf
  repeat' ((first | refine w1 (h := ?_) | refine w2 ?_ ?_ | refine w3 (h := ?_) | refine w4 (h := ?_) | refine hD _ _ ?_ | refine hL _ _ ?_ | (intro h; (try simp only [n1, n2, n3, n4, n5, n6] at h); first | (exfalso; omega) | (cases h; done) | skip)) <;> (conv => whnf))
  · have hi2 : i < takesN b.length := by omega
    have hl : (((entB b).drop (64 * i)).take 64).length = 64 := by rw [List.length_take, List.length_drop]; omega
    rw [entS_get hi2] at hwr
    have q3 : (i + 1) * 64 - i * 64 = 64 := by omega
    have q4 : ¬ XS.length = i * 64 := by omega
    refine draw_opaque fun KD hD => ?_
    refine draw_solid tok (by kernel_rfl) [.any 0, .any 1, .any 2, .any 4, .any 5, .any 6, .any 9, .any 11, .any 12, .any 13, .any 14, .any 15, .any 16, .any 17, .load 3, .one 7, .any 8, .any 10, .one 18, .any 19] [] (by kernel_rfl) rfl rfl (by repeat' (first | exact trivial | refine And.intro rfl ?_)) ?_
    conv => whnf
    repeat' ((first | (refine Exists.intro ((i + 1) * 64) (And.intro (by omega) ?_)) | (refine Exists.intro (i * 64) (And.intro (by omega) ?_)) | refine w1 (h := ?_) | refine w2 ?_ ?_ | refine w3 (h := ?_) | refine w4 (h := ?_) | refine hD _ _ ?_ | refine hL _ _ ?_ | (intro h; (try simp only [n1, n2, n3, n4, n5, n6] at h); first | (exfalso; omega) | (cases h; done) | skip)) <;> (conv => whnf))
    rw [q3, Option.map_some, if_neg q4, add_at, show 0 + i * 64 * 1 = 64 * i by omega]
    have tw := pWrite (rowFact b1 XS 5 :: fx) D e heo ((3 + next + i : Nat) : Int) (some ⟨b1, 64 * i, none⟩) (XS.length - i * 64) (((entB b).drop (64 * i)).take 64) (hXb i hi2)
    have hwo := heo.write ((3 + next + i : Nat) : Int) (((entB b).drop (64 * i)).take 64)
    have hwl : (e.write ((3 + next + i : Nat) : Int) (((entB b).drop (64 * i)).take 64)).2.l.length = d.l.length := by rw [write_len_eq, hel2]
    rw [hl] at tw
    rw [DS.wrN] at hwr
    refine Tri.use tw [0] rfl (args_ren rfl rfl) ⟨OSub.ren rfl rfl, trivial⟩ (fun f hf => by first | exact hf | cases hf | simp_all) (fun u hu => ?_)
    generalize e.write ((3 + next + i : Nat) : Int) (((entB b).drop (64 * i)).take 64) = ew at *
    conv => whnf
    repeat' ((first | refine w1 (h := ?_) | refine w2 ?_ ?_ | refine w3 (h := ?_) | refine w4 (h := ?_) | refine hD _ _ ?_ | refine hL _ _ ?_ | (intro h; (try simp only [n1, n2, n3, n4, n5, n6] at h); first | (exfalso; omega) | (cases h; done) | skip)) <;> (conv => whnf))
    · have hne := h
      rw [if_neg h] at hwr
      rw [hwr]
      refine Tri.of_code tok Try.func80 rfl rfl rfl (by decide) rfl (Nat.le_of_ble_eq_true rfl) ?_
      conv => whnf
      repeat' ((first | refine w1 (h := ?_) | refine w2 ?_ ?_ | refine w3 (h := ?_) | refine w4 (h := ?_) | refine hD _ _ ?_ | refine hL _ _ ?_ | (intro h; (try simp only [n1, n2, n3, n4, n5, n6] at h); first | (exfalso; omega) | (cases h; done) | skip)) <;> (conv => whnf))
      exact ⟨⟨none, []⟩, hne, sto_ret (s := ⟨kept, wait, used, next, decide (ew.1 = 6)⟩) ⟨.no, .no, hK, hW⟩ 2 3 (by decide) (by repeat first | exact List.mem_cons_self .. | apply List.mem_cons_of_mem) (by repeat first | exact List.mem_cons_self .. | apply List.mem_cons_of_mem) (fun xs e => by cases e <;> exact (by repeat first | exact List.mem_cons_self .. | apply List.mem_cons_of_mem)) (fun xs e => by cases e <;> exact (by repeat first | exact List.mem_cons_self .. | apply List.mem_cons_of_mem)) (fun ρ => rfl) rfl (SEq.ren rfl rfl) (fun _ h => nomatch h)⟩
    · rw [if_pos (by omega)] at hwr
      exact ⟨(i + 1, ew.2), [0, 1, 2, 3], ⟨⟨by simp only; omega, hwo, hwl, hwr⟩, by simp only; omega⟩, rfl, ⟨SEq.ren rfl rfl, fun _ _ _ => rfl, fun _ _ _ => rfl, fun _ _ _ => rfl, fun _ _ _ => rfl, SEq.eq rfl, trivial⟩, ⟨OSub.ren rfl rfl, OSub.ren rfl rfl, trivial⟩, fun f hf => hf⟩
  · have hit : i = takesN b.length := by omega
    subst hit
    rw [entS_end] at hwr
    replace hwr : d.wrN ((3 + next : Nat) : Int) (entS b) = (0, e) := hwr
    rw [hwr]
    have tc := tSClone (rowFact b1 XS 5 :: fx) A cap b (hB.mono fun f hf => List.mem_cons_of_mem _ hf) (by omega)
    refine draw_opaque fun KD hD => ?_
    refine draw_new tok (by kernel_rfl) [.any 0, .any 1, .any 2, .any 3, .any 5, .load 4, .one 6, .one 7, .one 8, .any 9, .any 10, .last 11] [11] ([(1, SObj.cells [.v (ptrV D), .v (.slice none 0 0), .v (.slice none 0 0), .v (.int .i64 used), .v (.int .i64 ((next : Int) + (takesN b.length : Nat))), .v (.bool false)] 115)]) (by kernel_rfl) rfl (rfl) (by repeat' (first | exact trivial | refine And.intro rfl ?_)) ?_
    conv => whnf
    repeat' ((first | refine w1 (h := ?_) | refine w2 ?_ ?_ | refine w3 (h := ?_) | refine w4 (h := ?_) | refine hD _ _ ?_ | refine hL _ _ ?_ | (intro h; (try simp only [n1, n2, n3, n4, n5, n6] at h); first | (exfalso; omega) | (cases h; done) | skip)) <;> (conv => whnf))
    refine Tri.use tc [] rfl (fun _ _ _ => rfl) trivial (fun f hf => hf) (fun u hu => ?_)
    obtain ⟨hob, hof⟩ := hu
    generalize u.1 = o at *
    generalize u.2 = f2 at *
    conv => whnf
    refine appFK_go ?_
    conv => whnf
    repeat' ((first | refine w1 (h := ?_) | refine w2 ?_ ?_ | refine w3 (h := ?_) | refine w4 (h := ?_) | refine hD _ _ ?_ | refine hL _ _ ?_ | (intro h; (try simp only [n1, n2, n3, n4, n5, n6] at h); first | (exfalso; omega) | (cases h; done) | skip)) <;> (conv => whnf))
    rename_i m0 sp0
    have hw0 : wait = [] := hW
    subst hw0
    have hrl : ([o.v] ++ sp0).length = 1 + m0 := by rw [List.length_append, h, Nat.mul_one]; rfl
    have hW2 : RowI.Ok ([] ++ [o]) (.row ([o.v] ++ sp0)) := ⟨rfl, by simp⟩
    exact ⟨⟨some o, f2⟩, ⟨rfl, hob, hof⟩, sto_ret (s := ⟨kept, [] ++ [o], used, next + takesN b.length, false⟩) ⟨.no, .row _, hK, hW2⟩ 2 5 (by decide) (by repeat first | exact List.mem_cons_self .. | apply List.mem_cons_of_mem) (by repeat first | exact List.mem_cons_self .. | apply List.mem_cons_of_mem) (fun xs e => by cases e <;> exact (by repeat first | exact List.mem_cons_self .. | apply List.mem_cons_of_mem)) (fun xs e => by cases e <;> exact (by repeat first | exact List.mem_cons_self .. | apply List.mem_cons_of_mem)) (fun ρ => by rw [← hrl]; first | rfl | (rw [← hwl]; rfl)) rfl (fun _ _ _ => rfl) (fun g hg => List.mem_append_left _ hg)⟩
set_option maxHeartbeats 4000000 in
theorem tSAppG1 (fx : List Fact) (D : Nat) (d : DS) (hd : d.Ok) (kept wait : List BsV) (used next : Nat) (ys : List Value) (hK : RowI.Ok kept .no) (hW : RowI.Ok wait (.row ys)) (A : Option Addr) (cap : Nat) (b : List UInt8) (hB : BytesAt fx A b) (hb : b.length ≤ 200) (hroom : next + takesN b.length + 3 ≤ d.l.length) (hw : wait.length ≤ 100000) :
    Tri Try.prog 52 [.p 1 0, .v (.slice A b.length cap)] [(1, .cells [.v (ptrV D), .v (.slice none 0 0), .s 3 0 wait.length ys.length, .v (.int .i64 used), .v (.int .i64 next), .v (.bool false)] 115), (3, .row ys 22), pdk 0 D d] 4 fx
      (RetE (α := AppR) 2 (fun x => x.Ok (d.wrN ((3 + next : Nat) : Int) (entS b)).1 b) (fun x => .v (.int .i64 (d.wrN ((3 + next : Nat) : Int) (entS b)).1))
        (fun x => [pdk 0 D (d.wrN ((3 + next : Nat) : Int) (entS b)).2, (1, .abs (stoA D (x.sto ⟨kept, wait, used, next, false⟩ (d.wrN ((3 + next : Nat) : Int) (entS b)).1 (takesN b.length))))]) 2 (fun x => x.f)) := by
  have hlen := hd.len
  have htk : takesN b.length ≤ 4 := by unfold takesN; omega
  have htp := takesN_pos b.length
  have htg := takesN_ge b.length
  have hel := entB_length b
  obtain ⟨n, hn⟩ : ∃ n, 64 * takesN b.length = 2 + b.length + n := ⟨64 * takesN b.length - 2 - b.length, by omega⟩
  have hn2 : ((takesN b.length : Int) * 64 - 2 - (b.length : Int)).toNat = n := by omega
  have hent : putB b.length 2 ++ b ++ List.replicate n 0 = entB b := by
    rw [entB_put, show 64 * takesN b.length - 2 - b.length = n by omega]
  have tcat := tCat3F fx A cap b (putB b.length 2) hB n (64 * takesN b.length) (putB_length _ _) (by omega) (by omega)
  rw [hent] at tcat
  refine Tri.of_code tok Try.func52 rfl rfl rfl (by decide) rfl (Nat.le_of_ble_eq_true rfl) ?_
  conv => whnf
  repeat' ((first | refine w1 (h := ?_) | refine w2 ?_ ?_ | refine w3 (h := ?_) | refine w4 (h := ?_) | refine hD _ _ ?_ | refine hL _ _ ?_ | (intro h; (try simp only [n1, n2, n3, n4, n5, n6] at h); first | (exfalso; omega) | (cases h; done) | skip)) <;> (conv => whnf))
  refine Tri.use ((tSTakes fx b.length (by omega)).one) [] rfl (fun _ _ _ => rfl) trivial (fun f hf => by first | exact hf | cases hf) (fun u hu => ?_)
  conv => whnf
  repeat' ((first | refine w1 (h := ?_) | refine w2 ?_ ?_ | refine w3 (h := ?_) | refine w4 (h := ?_) | refine hD _ _ ?_ | refine hL _ _ ?_ | (intro h; (try simp only [n1, n2, n3, n4, n5, n6] at h); first | (exfalso; omega) | (cases h; done) | skip)) <;> (conv => whnf))
  refine Tri.of_code tok Try.func51 rfl rfl rfl (by decide) rfl (Nat.le_of_ble_eq_true rfl) ?_
  conv => whnf
  repeat' ((first | refine w1 (h := ?_) | refine w2 ?_ ?_ | refine w3 (h := ?_) | refine w4 (h := ?_) | refine hD _ _ ?_ | refine hL _ _ ?_ | (intro h; (try simp only [n1, n2, n3, n4, n5, n6] at h); first | (exfalso; omega) | (cases h; done) | skip)) <;> (conv => whnf))
  refine draw_opaque fun KD hD => ?_
  refine draw_solid tok (by kernel_rfl) [.any 0, .any 1, .any 2, .any 6, .any 7, .any 8, .load 3, .load 9, .one 4, .any 5, .any 10, .any 11] [] (by kernel_rfl) rfl rfl (by repeat' (first | exact trivial | refine And.intro rfl ?_)) ?_
  conv => whnf
  repeat' ((first | refine w1 (h := ?_) | refine w2 ?_ ?_ | refine w3 (h := ?_) | refine w4 (h := ?_) | refine hD _ _ ?_ | refine hL _ _ ?_ | (intro h; (try simp only [n1, n2, n3, n4, n5, n6] at h); first | (exfalso; omega) | (cases h; done) | skip)) <;> (conv => whnf))
  refine Tri.use (pSize fx D d) [0] rfl (args_ren rfl rfl) ⟨OSub.ren rfl rfl, trivial⟩ (fun f hf => by first | exact hf | cases hf | simp_all) (fun u hu => ?_)
  conv => whnf
  repeat' ((first | refine w1 (h := ?_) | refine w2 ?_ ?_ | refine w3 (h := ?_) | refine w4 (h := ?_) | refine hD _ _ ?_ | refine hL _ _ ?_ | (intro h; (try simp only [n1, n2, n3, n4, n5, n6] at h); first | (exfalso; omega) | (cases h; done) | skip)) <;> (conv => whnf))
  refine Tri.use ((tSTakes fx b.length (by omega)).one) [] rfl (fun _ _ _ => rfl) trivial (fun f hf => by first | exact hf | cases hf) (fun u hu => ?_)
  conv => whnf
  repeat' ((first | refine w1 (h := ?_) | refine w2 ?_ ?_ | refine w3 (h := ?_) | refine w4 (h := ?_) | refine hD _ _ ?_ | refine hL _ _ ?_ | (intro h; (try simp only [n1, n2, n3, n4, n5, n6] at h); first | (exfalso; omega) | (cases h; done) | skip)) <;> (conv => whnf))
  refine draw_join (α := Nat × List Value) (fun x => ⟨[(0, .p 1 0), (1, .v (.slice A b.length cap)), (5, .v (.int .i64 (takesN b.length : Nat))), (6, .v (.slice (some ⟨x.1, 0, none⟩) (64 * takesN b.length) x.2.length))], [pdk 0 D d, (1, .cells [.v (ptrV D), .v (.slice none 0 0), .s 3 0 wait.length ys.length, .v (.int .i64 used), .v (.int .i64 next), .v (.bool false)] 115), (3, .row ys 22)], 4, rowFact x.1 x.2 5 :: fx⟩)
    (fun x => x.2.take (64 * takesN b.length) = (entB b).map bv ∧ 64 * takesN b.length ≤ x.2.length) (fun KJ hJ => ?_) ?_
  · refine draw_tree tok (by kernel_rfl) (.step (.any 0) <| .step (.any 1) <| .step (.any 3) <| .step (.any 4) <| .step (.any 5) <| .step (.any 6) <| .step (.any 7) <| .step (.any 8) <| .step (.any 9) <| .two 2 (.step (.one 10) <| .step (.one 11) <| .step (.one 12) <| .step (.any 13) .done) 10 (.step (.one 2) <| .step (.one 11) <| .step (.one 12) <| .step (.any 13) .done)) [] [] (by kernel_rfl) rfl rfl trivial ?_
    conv => whnf
    repeat' ((first | refine w1 (h := ?_) | refine w2 ?_ ?_ | refine w3 (h := ?_) | refine w4 (h := ?_) | refine hD _ _ ?_ | refine hL _ _ ?_ | (intro h; (try simp only [n1, n2, n3, n4, n5, n6] at h); first | (exfalso; omega) | (cases h; done) | skip)) <;> (conv => whnf))
    refine And.intro ?_ ?_
    all_goals
      conv => whnf
      repeat' ((first | refine w1 (h := ?_) | refine w2 ?_ ?_ | refine w3 (h := ?_) | refine w4 (h := ?_) | refine hD _ _ ?_ | refine hL _ _ ?_ | (intro h; (try simp only [n1, n2, n3, n4, n5, n6] at h); first | (exfalso; omega) | (cases h; done) | skip)) <;> (conv => whnf))
      try rw [hn2]
      refine Tri.use (tSPut fx b.length 2 (by omega) (by omega) (by omega)) [] rfl (args_ren rfl rfl) trivial (fun f hf => by first | exact hf | cases hf | simp_all) (fun u hu => ?_)
      conv => whnf
      repeat' ((first | refine w1 (h := ?_) | refine w2 ?_ ?_ | refine w3 (h := ?_) | refine w4 (h := ?_) | refine hD _ _ ?_ | refine hL _ _ ?_ | (intro h; (try simp only [n1, n2, n3, n4, n5, n6] at h); first | (exfalso; omega) | (cases h; done) | skip)) <;> (conv => whnf))
      try rw [hn2]
      first
        | refine Tri.use tcat [6, 4, 5] rfl (args_ren rfl rfl) ⟨OSub.ren rfl rfl, OSub.ren rfl rfl, OSub.ren rfl rfl, trivial⟩ (fun f hf => hf) (fun u hu => ?_)
        | refine Tri.use tcat [6, 5, 4] rfl (args_ren rfl rfl) ⟨OSub.ren rfl rfl, OSub.ren rfl rfl, OSub.ren rfl rfl, trivial⟩ (fun f hf => hf) (fun u hu => ?_)
      conv => whnf
      repeat' ((first | refine w1 (h := ?_) | refine w2 ?_ ?_ | refine w3 (h := ?_) | refine w4 (h := ?_) | refine hD _ _ ?_ | refine hL _ _ ?_ | (intro h; (try simp only [n1, n2, n3, n4, n5, n6] at h); first | (exfalso; omega) | (cases h; done) | skip)) <;> (conv => whnf))
      exact hJ _ u [0, 1, 2, 3] hu ⟨rfl, ⟨SEq.ren rfl rfl, fun _ _ _ => rfl, fun _ _ _ => rfl, fun _ _ _ => rfl, trivial⟩, ⟨OSub.ren rfl rfl, OSub.ren rfl rfl, OSub.ren rfl rfl,trivial⟩, fun f hf => hf⟩
  rintro ⟨b1, XS⟩ ⟨hX1, hX2⟩
  simp only at hX1 hX2
  have hXb : ∀ i, i < takesN b.length → BytesAt (rowFact b1 XS 5 :: fx) (some ⟨b1, 64 * i, none⟩) (((entB b).drop (64 * i)).take 64) := fun i hi => by
    have hl : (((entB b).drop (64 * i)).take 64).length = 64 := by rw [List.length_take, List.length_drop]; omega
    refine BytesAt.row (List.mem_cons_self ..) ?_
    rw [hl, List.map_take, List.map_drop, ← hX1, List.drop_take, List.take_take, Nat.min_eq_left (by omega)]
  clear tcat
  conv => whnf
  repeat' ((first | refine w1 (h := ?_) | refine w2 ?_ ?_ | refine w3 (h := ?_) | refine w4 (h := ?_) | refine hD _ _ ?_ | refine hL _ _ ?_ | (intro h; (try simp only [n1, n2, n3, n4, n5, n6] at h); first | (exfalso; omega) | (cases h; done) | skip)) <;> (conv => whnf))
  refine loop_by tok (α := Nat × DS) (fun x => match x with | (i, e) => ⟨[(0, .p 1 0), (1, .v (.slice A b.length cap)), (5, .v (.int .i64 (takesN b.length : Nat))), (6, .v (.slice (some ⟨b1, 0, none⟩) (64 * takesN b.length) XS.length)), (45, .v (.int .i64 (takesN b.length : Nat))), (46, .v (.int .i64 (i : Int)))], [pdk 0 D e, (1, .cells [.v (ptrV D), .v (.slice none 0 0), .s 3 0 wait.length ys.length, .v (.int .i64 used), .v (.int .i64 next), .v (.bool false)] 115), (3, .row ys 22)], 4, rowFact b1 XS 5 :: fx⟩)
    (fun x => x.1 ≤ takesN b.length ∧ x.2.Ok ∧ x.2.l.length = d.l.length ∧ d.wrN ((3 + next : Nat) : Int) (entS b) = x.2.wrN ((3 + next + x.1 : Nat) : Int) ((entS b).drop x.1)) (fun x => takesN b.length - x.1) (0, d) [0, 1, 2, 3] ⟨Nat.zero_le _, hd, rfl, rfl⟩
    ⟨rfl, ⟨SEq.ren rfl rfl, fun _ _ _ => rfl, fun _ _ _ => rfl, fun _ _ _ => rfl, fun _ _ _ => rfl, fun _ _ _ => rfl, trivial⟩, ⟨OSub.ren rfl rfl, OSub.ren rfl rfl, OSub.ren rfl rfl,trivial⟩, fun f hf => hf⟩ ?_
  rintro ⟨i, e⟩ ⟨hi, heo, hel2, hwr⟩
  simp only at hi heo hel2 hwr
  conv => whnf
  repeat' ((first | refine w1 (h := ?_) | refine w2 ?_ ?_ | refine w3 (h := ?_) | refine w4 (h := ?_) | refine hD _ _ ?_ | refine hL _ _ ?_ | (intro h; (try simp only [n1, n2, n3, n4, n5, n6] at h); first | (exfalso; omega) | (cases h; done) | skip)) <;> (conv => whnf))
  · have hi2 : i < takesN b.length := by omega
    have hl : (((entB b).drop (64 * i)).take 64).length = 64 := by rw [List.length_take, List.length_drop]; omega
    rw [entS_get hi2] at hwr
    have q3 : (i + 1) * 64 - i * 64 = 64 := by omega
    have q4 : ¬ XS.length = i * 64 := by omega
    refine draw_opaque fun KD hD => ?_
    refine draw_solid tok (by kernel_rfl) [.any 0, .any 1, .any 2, .any 4, .any 5, .any 6, .any 9, .any 11, .any 12, .any 13, .any 14, .any 15, .any 16, .any 17, .load 3, .one 7, .any 8, .any 10, .one 18, .any 19] [] (by kernel_rfl) rfl rfl (by repeat' (first | exact trivial | refine And.intro rfl ?_)) ?_
    conv => whnf
    repeat' ((first | (refine Exists.intro ((i + 1) * 64) (And.intro (by omega) ?_)) | (refine Exists.intro (i * 64) (And.intro (by omega) ?_)) | refine w1 (h := ?_) | refine w2 ?_ ?_ | refine w3 (h := ?_) | refine w4 (h := ?_) | refine hD _ _ ?_ | refine hL _ _ ?_ | (intro h; (try simp only [n1, n2, n3, n4, n5, n6] at h); first | (exfalso; omega) | (cases h; done) | skip)) <;> (conv => whnf))
    rw [q3, Option.map_some, if_neg q4, add_at, show 0 + i * 64 * 1 = 64 * i by omega]
    have tw := pWrite (rowFact b1 XS 5 :: fx) D e heo ((3 + next + i : Nat) : Int) (some ⟨b1, 64 * i, none⟩) (XS.length - i * 64) (((entB b).drop (64 * i)).take 64) (hXb i hi2)
    have hwo := heo.write ((3 + next + i : Nat) : Int) (((entB b).drop (64 * i)).take 64)
    have hwl : (e.write ((3 + next + i : Nat) : Int) (((entB b).drop (64 * i)).take 64)).2.l.length = d.l.length := by rw [write_len_eq, hel2]
    rw [hl] at tw
    rw [DS.wrN] at hwr
    refine Tri.use tw [0] rfl (args_ren rfl rfl) ⟨OSub.ren rfl rfl, trivial⟩ (fun f hf => by first | exact hf | cases hf | simp_all) (fun u hu => ?_)
    generalize e.write ((3 + next + i : Nat) : Int) (((entB b).drop (64 * i)).take 64) = ew at *
    conv => whnf
    repeat' ((first | refine w1 (h := ?_) | refine w2 ?_ ?_ | refine w3 (h := ?_) | refine w4 (h := ?_) | refine hD _ _ ?_ | refine hL _ _ ?_ | (intro h; (try simp only [n1, n2, n3, n4, n5, n6] at h); first | (exfalso; omega) | (cases h; done) | skip)) <;> (conv => whnf))
    · have hne := h
      rw [if_neg h] at hwr
      rw [hwr]
      refine Tri.of_code tok Try.func80 rfl rfl rfl (by decide) rfl (Nat.le_of_ble_eq_true rfl) ?_
      conv => whnf
      repeat' ((first | refine w1 (h := ?_) | refine w2 ?_ ?_ | refine w3 (h := ?_) | refine w4 (h := ?_) | refine hD _ _ ?_ | refine hL _ _ ?_ | (intro h; (try simp only [n1, n2, n3, n4, n5, n6] at h); first | (exfalso; omega) | (cases h; done) | skip)) <;> (conv => whnf))
      exact ⟨⟨none, []⟩, hne, sto_ret (s := ⟨kept, wait, used, next, decide (ew.1 = 6)⟩) ⟨.no, .row ys, hK, hW⟩ 2 3 (by decide) (by repeat first | exact List.mem_cons_self .. | apply List.mem_cons_of_mem) (by repeat first | exact List.mem_cons_self .. | apply List.mem_cons_of_mem) (fun xs e => by cases e <;> exact (by repeat first | exact List.mem_cons_self .. | apply List.mem_cons_of_mem)) (fun xs e => by cases e <;> exact (by repeat first | exact List.mem_cons_self .. | apply List.mem_cons_of_mem)) (fun ρ => rfl) rfl (SEq.ren rfl rfl) (fun _ h => nomatch h)⟩
    · rw [if_pos (by omega)] at hwr
      exact ⟨(i + 1, ew.2), [0, 1, 2, 3], ⟨⟨by simp only; omega, hwo, hwl, hwr⟩, by simp only; omega⟩, rfl, ⟨SEq.ren rfl rfl, fun _ _ _ => rfl, fun _ _ _ => rfl, fun _ _ _ => rfl, fun _ _ _ => rfl, SEq.eq rfl, trivial⟩, ⟨OSub.ren rfl rfl, OSub.ren rfl rfl, OSub.ren rfl rfl,trivial⟩, fun f hf => hf⟩
  · have hit : i = takesN b.length := by omega
    subst hit
    rw [entS_end] at hwr
    replace hwr : d.wrN ((3 + next : Nat) : Int) (entS b) = (0, e) := hwr
    rw [hwr]
    have tc := tSClone (rowFact b1 XS 5 :: fx) A cap b (hB.mono fun f hf => List.mem_cons_of_mem _ hf) (by omega)
    refine draw_opaque fun KD hD => ?_
    refine draw_new tok (by kernel_rfl) [.any 0, .any 1, .any 2, .any 3, .any 5, .load 4, .one 6, .one 7, .one 8, .any 9, .any 10, .last 11] [11] ([(1, SObj.cells [.v (ptrV D), .v (.slice none 0 0), .s 3 0 wait.length ys.length, .v (.int .i64 used), .v (.int .i64 ((next : Int) + (takesN b.length : Nat))), .v (.bool false)] 115)]) (by kernel_rfl) rfl (rfl) (by repeat' (first | exact trivial | refine And.intro rfl ?_)) ?_
    conv => whnf
    repeat' ((first | refine w1 (h := ?_) | refine w2 ?_ ?_ | refine w3 (h := ?_) | refine w4 (h := ?_) | refine hD _ _ ?_ | refine hL _ _ ?_ | (intro h; (try simp only [n1, n2, n3, n4, n5, n6] at h); first | (exfalso; omega) | (cases h; done) | skip)) <;> (conv => whnf))
    refine Tri.use tc [] rfl (fun _ _ _ => rfl) trivial (fun f hf => hf) (fun u hu => ?_)
    obtain ⟨hob, hof⟩ := hu
    generalize u.1 = o at *
    generalize u.2 = f2 at *
    conv => whnf
    refine appFK_go ?_
    conv => whnf
    repeat' ((first | refine w1 (h := ?_) | refine w2 ?_ ?_ | refine w3 (h := ?_) | refine w4 (h := ?_) | refine hD _ _ ?_ | refine hL _ _ ?_ | (intro h; (try simp only [n1, n2, n3, n4, n5, n6] at h); first | (exfalso; omega) | (cases h; done) | skip)) <;> (conv => whnf))
    obtain ⟨hw1, hw2⟩ := hW
    refine And.intro ⟨by omega, hw2, by omega, fun u hu => by rw [List.mem_singleton.1 hu]; rfl⟩ ?_
    intro m0 sp0 hsp0
    conv => whnf
    repeat' ((first | refine w1 (h := ?_) | refine w2 ?_ ?_ | refine w3 (h := ?_) | refine w4 (h := ?_) | refine hD _ _ ?_ | refine hL _ _ ?_ | (intro h; (try simp only [n1, n2, n3, n4, n5, n6] at h); first | (exfalso; omega) | (cases h; done) | skip)) <;> (conv => whnf))
    have hrl : (ys.take (wait.length * 1) ++ [o.v] ++ sp0).length = wait.length + 1 + m0 := by simp only [List.length_append, List.length_take, List.length_singleton, hsp0, Nat.mul_one, Nat.min_eq_left hw2]
    have hW2 : RowI.Ok (wait ++ [o]) (.row (ys.take (wait.length * 1) ++ [o.v] ++ sp0)) := ⟨by rw [Nat.mul_one, hw1, List.take_left' (by simp)]; simp, by rw [hrl]; simp⟩
    have hwl : (wait ++ [o]).length = wait.length + 1 := by simp
    exact ⟨⟨some o, f2⟩, ⟨rfl, hob, hof⟩, sto_ret (s := ⟨kept, wait ++ [o], used, next + takesN b.length, false⟩) ⟨.no, .row _, hK, hW2⟩ 2 5 (by decide) (by repeat first | exact List.mem_cons_self .. | apply List.mem_cons_of_mem) (by repeat first | exact List.mem_cons_self .. | apply List.mem_cons_of_mem) (fun xs e => by cases e <;> exact (by repeat first | exact List.mem_cons_self .. | apply List.mem_cons_of_mem)) (fun xs e => by cases e <;> exact (by repeat first | exact List.mem_cons_self .. | apply List.mem_cons_of_mem)) (fun ρ => by rw [← hrl]; first | rfl | (rw [← hwl]; rfl)) rfl (fun _ _ _ => rfl) (fun g hg => List.mem_append_left _ hg)⟩
set_option maxHeartbeats 4000000 in
theorem tSAppG2 (fx : List Fact) (D : Nat) (d : DS) (hd : d.Ok) (kept wait : List BsV) (used next : Nat) (xs : List Value) (hK : RowI.Ok kept (.row xs)) (hW : RowI.Ok wait .no) (A : Option Addr) (cap : Nat) (b : List UInt8) (hB : BytesAt fx A b) (hb : b.length ≤ 200) (hroom : next + takesN b.length + 3 ≤ d.l.length) (hw : wait.length ≤ 100000) :
    Tri Try.prog 52 [.p 1 0, .v (.slice A b.length cap)] [(1, .cells [.v (ptrV D), .s 2 0 kept.length xs.length, .v (.slice none 0 0), .v (.int .i64 used), .v (.int .i64 next), .v (.bool false)] 115), (2, .row xs 22), pdk 0 D d] 4 fx
      (RetE (α := AppR) 2 (fun x => x.Ok (d.wrN ((3 + next : Nat) : Int) (entS b)).1 b) (fun x => .v (.int .i64 (d.wrN ((3 + next : Nat) : Int) (entS b)).1))
        (fun x => [pdk 0 D (d.wrN ((3 + next : Nat) : Int) (entS b)).2, (1, .abs (stoA D (x.sto ⟨kept, wait, used, next, false⟩ (d.wrN ((3 + next : Nat) : Int) (entS b)).1 (takesN b.length))))]) 2 (fun x => x.f)) := by
  have hlen := hd.len
  have htk : takesN b.length ≤ 4 := by unfold takesN; omega
  have htp := takesN_pos b.length
  have htg := takesN_ge b.length
  have hel := entB_length b
  obtain ⟨n, hn⟩ : ∃ n, 64 * takesN b.length = 2 + b.length + n := ⟨64 * takesN b.length - 2 - b.length, by omega⟩
  have hn2 : ((takesN b.length : Int) * 64 - 2 - (b.length : Int)).toNat = n := by omega
  have hent : putB b.length 2 ++ b ++ List.replicate n 0 = entB b := by
    rw [entB_put, show 64 * takesN b.length - 2 - b.length = n by omega]
  have tcat := tCat3F fx A cap b (putB b.length 2) hB n (64 * takesN b.length) (putB_length _ _) (by omega) (by omega)
  rw [hent] at tcat
  refine Tri.of_code tok Try.func52 rfl rfl rfl (by decide) rfl (Nat.le_of_ble_eq_true rfl) ?_
  conv => whnf
  repeat' ((first | refine w1 (h := ?_) | refine w2 ?_ ?_ | refine w3 (h := ?_) | refine w4 (h := ?_) | refine hD _ _ ?_ | refine hL _ _ ?_ | (intro h; (try simp only [n1, n2, n3, n4, n5, n6] at h); first | (exfalso; omega) | (cases h; done) | skip)) <;> (conv => whnf))
  refine Tri.use ((tSTakes fx b.length (by omega)).one) [] rfl (fun _ _ _ => rfl) trivial (fun f hf => by first | exact hf | cases hf) (fun u hu => ?_)
  conv => whnf
  repeat' ((first | refine w1 (h := ?_) | refine w2 ?_ ?_ | refine w3 (h := ?_) | refine w4 (h := ?_) | refine hD _ _ ?_ | refine hL _ _ ?_ | (intro h; (try simp only [n1, n2, n3, n4, n5, n6] at h); first | (exfalso; omega) | (cases h; done) | skip)) <;> (conv => whnf))
  refine Tri.of_code tok Try.func51 rfl rfl rfl (by decide) rfl (Nat.le_of_ble_eq_true rfl) ?_
  conv => whnf
  repeat' ((first | refine w1 (h := ?_) | refine w2 ?_ ?_ | refine w3 (h := ?_) | refine w4 (h := ?_) | refine hD _ _ ?_ | refine hL _ _ ?_ | (intro h; (try simp only [n1, n2, n3, n4, n5, n6] at h); first | (exfalso; omega) | (cases h; done) | skip)) <;> (conv => whnf))
  refine draw_opaque fun KD hD => ?_
  refine draw_solid tok (by kernel_rfl) [.any 0, .any 1, .any 2, .any 6, .any 7, .any 8, .load 3, .load 9, .one 4, .any 5, .any 10, .any 11] [] (by kernel_rfl) rfl rfl (by repeat' (first | exact trivial | refine And.intro rfl ?_)) ?_
  conv => whnf
  repeat' ((first | refine w1 (h := ?_) | refine w2 ?_ ?_ | refine w3 (h := ?_) | refine w4 (h := ?_) | refine hD _ _ ?_ | refine hL _ _ ?_ | (intro h; (try simp only [n1, n2, n3, n4, n5, n6] at h); first | (exfalso; omega) | (cases h; done) | skip)) <;> (conv => whnf))
  refine Tri.use (pSize fx D d) [0] rfl (args_ren rfl rfl) ⟨OSub.ren rfl rfl, trivial⟩ (fun f hf => by first | exact hf | cases hf | simp_all) (fun u hu => ?_)
  conv => whnf
  repeat' ((first | refine w1 (h := ?_) | refine w2 ?_ ?_ | refine w3 (h := ?_) | refine w4 (h := ?_) | refine hD _ _ ?_ | refine hL _ _ ?_ | (intro h; (try simp only [n1, n2, n3, n4, n5, n6] at h); first | (exfalso; omega) | (cases h; done) | skip)) <;> (conv => whnf))
  refine Tri.use ((tSTakes fx b.length (by omega)).one) [] rfl (fun _ _ _ => rfl) trivial (fun f hf => by first | exact hf | cases hf) (fun u hu => ?_)
  conv => whnf
  repeat' ((first | refine w1 (h := ?_) | refine w2 ?_ ?_ | refine w3 (h := ?_) | refine w4 (h := ?_) | refine hD _ _ ?_ | refine hL _ _ ?_ | (intro h; (try simp only [n1, n2, n3, n4, n5, n6] at h); first | (exfalso; omega) | (cases h; done) | skip)) <;> (conv => whnf))
  refine draw_join (α := Nat × List Value) (fun x => ⟨[(0, .p 1 0), (1, .v (.slice A b.length cap)), (5, .v (.int .i64 (takesN b.length : Nat))), (6, .v (.slice (some ⟨x.1, 0, none⟩) (64 * takesN b.length) x.2.length))], [pdk 0 D d, (1, .cells [.v (ptrV D), .s 2 0 kept.length xs.length, .v (.slice none 0 0), .v (.int .i64 used), .v (.int .i64 next), .v (.bool false)] 115), (2, .row xs 22)], 4, rowFact x.1 x.2 5 :: fx⟩)
    (fun x => x.2.take (64 * takesN b.length) = (entB b).map bv ∧ 64 * takesN b.length ≤ x.2.length) (fun KJ hJ => ?_) ?_
  · refine draw_tree tok (by kernel_rfl) (.step (.any 0) <| .step (.any 1) <| .step (.any 3) <| .step (.any 4) <| .step (.any 5) <| .step (.any 6) <| .step (.any 7) <| .step (.any 8) <| .step (.any 9) <| .two 2 (.step (.one 10) <| .step (.one 11) <| .step (.one 12) <| .step (.any 13) .done) 10 (.step (.one 2) <| .step (.one 11) <| .step (.one 12) <| .step (.any 13) .done)) [] [] (by kernel_rfl) rfl rfl trivial ?_
    conv => whnf
    repeat' ((first | refine w1 (h := ?_) | refine w2 ?_ ?_ | refine w3 (h := ?_) | refine w4 (h := ?_) | refine hD _ _ ?_ | refine hL _ _ ?_ | (intro h; (try simp only [n1, n2, n3, n4, n5, n6] at h); first | (exfalso; omega) | (cases h; done) | skip)) <;> (conv => whnf))
    refine And.intro ?_ ?_
    all_goals
      conv => whnf
      repeat' ((first | refine w1 (h := ?_) | refine w2 ?_ ?_ | refine w3 (h := ?_) | refine w4 (h := ?_) | refine hD _ _ ?_ | refine hL _ _ ?_ | (intro h; (try simp only [n1, n2, n3, n4, n5, n6] at h); first | (exfalso; omega) | (cases h; done) | skip)) <;> (conv => whnf))
      try rw [hn2]
      refine Tri.use (tSPut fx b.length 2 (by omega) (by omega) (by omega)) [] rfl (args_ren rfl rfl) trivial (fun f hf => by first | exact hf | cases hf | simp_all) (fun u hu => ?_)
      conv => whnf
      repeat' ((first | refine w1 (h := ?_) | refine w2 ?_ ?_ | refine w3 (h := ?_) | refine w4 (h := ?_) | refine hD _ _ ?_ | refine hL _ _ ?_ | (intro h; (try simp only [n1, n2, n3, n4, n5, n6] at h); first | (exfalso; omega) | (cases h; done) | skip)) <;> (conv => whnf))
      try rw [hn2]
      first
        | refine Tri.use tcat [6, 4, 5] rfl (args_ren rfl rfl) ⟨OSub.ren rfl rfl, OSub.ren rfl rfl, OSub.ren rfl rfl, trivial⟩ (fun f hf => hf) (fun u hu => ?_)
        | refine Tri.use tcat [6, 5, 4] rfl (args_ren rfl rfl) ⟨OSub.ren rfl rfl, OSub.ren rfl rfl, OSub.ren rfl rfl, trivial⟩ (fun f hf => hf) (fun u hu => ?_)
      conv => whnf
      repeat' ((first | refine w1 (h := ?_) | refine w2 ?_ ?_ | refine w3 (h := ?_) | refine w4 (h := ?_) | refine hD _ _ ?_ | refine hL _ _ ?_ | (intro h; (try simp only [n1, n2, n3, n4, n5, n6] at h); first | (exfalso; omega) | (cases h; done) | skip)) <;> (conv => whnf))
      exact hJ _ u [0, 1, 2, 3] hu ⟨rfl, ⟨SEq.ren rfl rfl, fun _ _ _ => rfl, fun _ _ _ => rfl, fun _ _ _ => rfl, trivial⟩, ⟨OSub.ren rfl rfl, OSub.ren rfl rfl, OSub.ren rfl rfl,trivial⟩, fun f hf => hf⟩
  rintro ⟨b1, XS⟩ ⟨hX1, hX2⟩
  simp only at hX1 hX2
  have hXb : ∀ i, i < takesN b.length → BytesAt (rowFact b1 XS 5 :: fx) (some ⟨b1, 64 * i, none⟩) (((entB b).drop (64 * i)).take 64) := fun i hi => by
    have hl : (((entB b).drop (64 * i)).take 64).length = 64 := by rw [List.length_take, List.length_drop]; omega
    refine BytesAt.row (List.mem_cons_self ..) ?_
    rw [hl, List.map_take, List.map_drop, ← hX1, List.drop_take, List.take_take, Nat.min_eq_left (by omega)]
  clear tcat
  conv => whnf
  repeat' ((first | refine w1 (h := ?_) | refine w2 ?_ ?_ | refine w3 (h := ?_) | refine w4 (h := ?_) | refine hD _ _ ?_ | refine hL _ _ ?_ | (intro h; (try simp only [n1, n2, n3, n4, n5, n6] at h); first | (exfalso; omega) | (cases h; done) | skip)) <;> (conv => whnf))
  refine loop_by tok (α := Nat × DS) (fun x => match x with | (i, e) => ⟨[(0, .p 1 0), (1, .v (.slice A b.length cap)), (5, .v (.int .i64 (takesN b.length : Nat))), (6, .v (.slice (some ⟨b1, 0, none⟩) (64 * takesN b.length) XS.length)), (45, .v (.int .i64 (takesN b.length : Nat))), (46, .v (.int .i64 (i : Int)))], [pdk 0 D e, (1, .cells [.v (ptrV D), .s 2 0 kept.length xs.length, .v (.slice none 0 0), .v (.int .i64 used), .v (.int .i64 next), .v (.bool false)] 115), (2, .row xs 22)], 4, rowFact b1 XS 5 :: fx⟩)
    (fun x => x.1 ≤ takesN b.length ∧ x.2.Ok ∧ x.2.l.length = d.l.length ∧ d.wrN ((3 + next : Nat) : Int) (entS b) = x.2.wrN ((3 + next + x.1 : Nat) : Int) ((entS b).drop x.1)) (fun x => takesN b.length - x.1) (0, d) [0, 1, 2, 3] ⟨Nat.zero_le _, hd, rfl, rfl⟩
    ⟨rfl, ⟨SEq.ren rfl rfl, fun _ _ _ => rfl, fun _ _ _ => rfl, fun _ _ _ => rfl, fun _ _ _ => rfl, fun _ _ _ => rfl, trivial⟩, ⟨OSub.ren rfl rfl, OSub.ren rfl rfl, OSub.ren rfl rfl,trivial⟩, fun f hf => hf⟩ ?_
  rintro ⟨i, e⟩ ⟨hi, heo, hel2, hwr⟩
  simp only at hi heo hel2 hwr
  conv => whnf
  repeat' ((first | refine w1 (h := ?_) | refine w2 ?_ ?_ | refine w3 (h := ?_) | refine w4 (h := ?_) | refine hD _ _ ?_ | refine hL _ _ ?_ | (intro h; (try simp only [n1, n2, n3, n4, n5, n6] at h); first | (exfalso; omega) | (cases h; done) | skip)) <;> (conv => whnf))
  · have hi2 : i < takesN b.length := by omega
    have hl : (((entB b).drop (64 * i)).take 64).length = 64 := by rw [List.length_take, List.length_drop]; omega
    rw [entS_get hi2] at hwr
    have q3 : (i + 1) * 64 - i * 64 = 64 := by omega
    have q4 : ¬ XS.length = i * 64 := by omega
    refine draw_opaque fun KD hD => ?_
    refine draw_solid tok (by kernel_rfl) [.any 0, .any 1, .any 2, .any 4, .any 5, .any 6, .any 9, .any 11, .any 12, .any 13, .any 14, .any 15, .any 16, .any 17, .load 3, .one 7, .any 8, .any 10, .one 18, .any 19] [] (by kernel_rfl) rfl rfl (by repeat' (first | exact trivial | refine And.intro rfl ?_)) ?_
    conv => whnf
    repeat' ((first | (refine Exists.intro ((i + 1) * 64) (And.intro (by omega) ?_)) | (refine Exists.intro (i * 64) (And.intro (by omega) ?_)) | refine w1 (h := ?_) | refine w2 ?_ ?_ | refine w3 (h := ?_) | refine w4 (h := ?_) | refine hD _ _ ?_ | refine hL _ _ ?_ | (intro h; (try simp only [n1, n2, n3, n4, n5, n6] at h); first | (exfalso; omega) | (cases h; done) | skip)) <;> (conv => whnf))
    rw [q3, Option.map_some, if_neg q4, add_at, show 0 + i * 64 * 1 = 64 * i by omega]
    have tw := pWrite (rowFact b1 XS 5 :: fx) D e heo ((3 + next + i : Nat) : Int) (some ⟨b1, 64 * i, none⟩) (XS.length - i * 64) (((entB b).drop (64 * i)).take 64) (hXb i hi2)
    have hwo := heo.write ((3 + next + i : Nat) : Int) (((entB b).drop (64 * i)).take 64)
    have hwl : (e.write ((3 + next + i : Nat) : Int) (((entB b).drop (64 * i)).take 64)).2.l.length = d.l.length := by rw [write_len_eq, hel2]
    rw [hl] at tw
    rw [DS.wrN] at hwr
    refine Tri.use tw [0] rfl (args_ren rfl rfl) ⟨OSub.ren rfl rfl, trivial⟩ (fun f hf => by first | exact hf | cases hf | simp_all) (fun u hu => ?_)
    generalize e.write ((3 + next + i : Nat) : Int) (((entB b).drop (64 * i)).take 64) = ew at *
    conv => whnf
    repeat' ((first | refine w1 (h := ?_) | refine w2 ?_ ?_ | refine w3 (h := ?_) | refine w4 (h := ?_) | refine hD _ _ ?_ | refine hL _ _ ?_ | (intro h; (try simp only [n1, n2, n3, n4, n5, n6] at h); first | (exfalso; omega) | (cases h; done) | skip)) <;> (conv => whnf))
    · have hne := h
      rw [if_neg h] at hwr
      rw [hwr]
      refine Tri.of_code tok Try.func80 rfl rfl rfl (by decide) rfl (Nat.le_of_ble_eq_true rfl) ?_
      conv => whnf
      repeat' ((first | refine w1 (h := ?_) | refine w2 ?_ ?_ | refine w3 (h := ?_) | refine w4 (h := ?_) | refine hD _ _ ?_ | refine hL _ _ ?_ | (intro h; (try simp only [n1, n2, n3, n4, n5, n6] at h); first | (exfalso; omega) | (cases h; done) | skip)) <;> (conv => whnf))
      exact ⟨⟨none, []⟩, hne, sto_ret (s := ⟨kept, wait, used, next, decide (ew.1 = 6)⟩) ⟨.row xs, .no, hK, hW⟩ 2 3 (by decide) (by repeat first | exact List.mem_cons_self .. | apply List.mem_cons_of_mem) (by repeat first | exact List.mem_cons_self .. | apply List.mem_cons_of_mem) (fun xs e => by cases e <;> exact (by repeat first | exact List.mem_cons_self .. | apply List.mem_cons_of_mem)) (fun xs e => by cases e <;> exact (by repeat first | exact List.mem_cons_self .. | apply List.mem_cons_of_mem)) (fun ρ => rfl) rfl (SEq.ren rfl rfl) (fun _ h => nomatch h)⟩
    · rw [if_pos (by omega)] at hwr
      exact ⟨(i + 1, ew.2), [0, 1, 2, 3], ⟨⟨by simp only; omega, hwo, hwl, hwr⟩, by simp only; omega⟩, rfl, ⟨SEq.ren rfl rfl, fun _ _ _ => rfl, fun _ _ _ => rfl, fun _ _ _ => rfl, fun _ _ _ => rfl, SEq.eq rfl, trivial⟩, ⟨OSub.ren rfl rfl, OSub.ren rfl rfl, OSub.ren rfl rfl,trivial⟩, fun f hf => hf⟩
  · have hit : i = takesN b.length := by omega
    subst hit
    rw [entS_end] at hwr
    replace hwr : d.wrN ((3 + next : Nat) : Int) (entS b) = (0, e) := hwr
    rw [hwr]
    have tc := tSClone (rowFact b1 XS 5 :: fx) A cap b (hB.mono fun f hf => List.mem_cons_of_mem _ hf) (by omega)
    refine draw_opaque fun KD hD => ?_
    refine draw_new tok (by kernel_rfl) [.any 0, .any 1, .any 2, .any 3, .any 5, .load 4, .one 6, .one 7, .one 8, .any 9, .any 10, .last 11] [11] ([(1, SObj.cells [.v (ptrV D), .s 2 0 kept.length xs.length, .v (.slice none 0 0), .v (.int .i64 used), .v (.int .i64 ((next : Int) + (takesN b.length : Nat))), .v (.bool false)] 115)]) (by kernel_rfl) rfl (rfl) (by repeat' (first | exact trivial | refine And.intro rfl ?_)) ?_
    conv => whnf
    repeat' ((first | refine w1 (h := ?_) | refine w2 ?_ ?_ | refine w3 (h := ?_) | refine w4 (h := ?_) | refine hD _ _ ?_ | refine hL _ _ ?_ | (intro h; (try simp only [n1, n2, n3, n4, n5, n6] at h); first | (exfalso; omega) | (cases h; done) | skip)) <;> (conv => whnf))
    refine Tri.use tc [] rfl (fun _ _ _ => rfl) trivial (fun f hf => hf) (fun u hu => ?_)
    obtain ⟨hob, hof⟩ := hu
    generalize u.1 = o at *
    generalize u.2 = f2 at *
    conv => whnf
    refine appFK_go ?_
    conv => whnf
    repeat' ((first | refine w1 (h := ?_) | refine w2 ?_ ?_ | refine w3 (h := ?_) | refine w4 (h := ?_) | refine hD _ _ ?_ | refine hL _ _ ?_ | (intro h; (try simp only [n1, n2, n3, n4, n5, n6] at h); first | (exfalso; omega) | (cases h; done) | skip)) <;> (conv => whnf))
    rename_i m0 sp0
    have hw0 : wait = [] := hW
    subst hw0
    have hrl : ([o.v] ++ sp0).length = 1 + m0 := by rw [List.length_append, h, Nat.mul_one]; rfl
    have hW2 : RowI.Ok ([] ++ [o]) (.row ([o.v] ++ sp0)) := ⟨rfl, by simp⟩
    exact ⟨⟨some o, f2⟩, ⟨rfl, hob, hof⟩, sto_ret (s := ⟨kept, [] ++ [o], used, next + takesN b.length, false⟩) ⟨.row xs, .row _, hK, hW2⟩ 2 5 (by decide) (by repeat first | exact List.mem_cons_self .. | apply List.mem_cons_of_mem) (by repeat first | exact List.mem_cons_self .. | apply List.mem_cons_of_mem) (fun xs e => by cases e <;> exact (by repeat first | exact List.mem_cons_self .. | apply List.mem_cons_of_mem)) (fun xs e => by cases e <;> exact (by repeat first | exact List.mem_cons_self .. | apply List.mem_cons_of_mem)) (fun ρ => by rw [← hrl]; first | rfl | (rw [← hwl]; rfl)) rfl (fun _ _ _ => rfl) (fun g hg => List.mem_append_left _ hg)⟩
set_option maxHeartbeats 4000000 in
theorem tSAppG3 (fx : List Fact) (D : Nat) (d : DS) (hd : d.Ok) (kept wait : List BsV) (used next : Nat) (xs ys : List Value) (hK : RowI.Ok kept (.row xs)) (hW : RowI.Ok wait (.row ys)) (A : Option Addr) (cap : Nat) (b : List UInt8) (hB : BytesAt fx A b) (hb : b.length ≤ 200) (hroom : next + takesN b.length + 3 ≤ d.l.length) (hw : wait.length ≤ 100000) :
    Tri Try.prog 52 [.p 1 0, .v (.slice A b.length cap)] [(1, .cells [.v (ptrV D), .s 2 0 kept.length xs.length, .s 3 0 wait.length ys.length, .v (.int .i64 used), .v (.int .i64 next), .v (.bool false)] 115), (2, .row xs 22), (3, .row ys 22), pdk 0 D d] 4 fx
      (RetE (α := AppR) 2 (fun x => x.Ok (d.wrN ((3 + next : Nat) : Int) (entS b)).1 b) (fun x => .v (.int .i64 (d.wrN ((3 + next : Nat) : Int) (entS b)).1))
        (fun x => [pdk 0 D (d.wrN ((3 + next : Nat) : Int) (entS b)).2, (1, .abs (stoA D (x.sto ⟨kept, wait, used, next, false⟩ (d.wrN ((3 + next : Nat) : Int) (entS b)).1 (takesN b.length))))]) 2 (fun x => x.f)) := by
  have hlen := hd.len
  have htk : takesN b.length ≤ 4 := by unfold takesN; omega
  have htp := takesN_pos b.length
  have htg := takesN_ge b.length
  have hel := entB_length b
  obtain ⟨n, hn⟩ : ∃ n, 64 * takesN b.length = 2 + b.length + n := ⟨64 * takesN b.length - 2 - b.length, by omega⟩
  have hn2 : ((takesN b.length : Int) * 64 - 2 - (b.length : Int)).toNat = n := by omega
  have hent : putB b.length 2 ++ b ++ List.replicate n 0 = entB b := by
    rw [entB_put, show 64 * takesN b.length - 2 - b.length = n by omega]
  have tcat := tCat3F fx A cap b (putB b.length 2) hB n (64 * takesN b.length) (putB_length _ _) (by omega) (by omega)
  rw [hent] at tcat
  refine Tri.of_code tok Try.func52 rfl rfl rfl (by decide) rfl (Nat.le_of_ble_eq_true rfl) ?_
  conv => whnf
  repeat' ((first | refine w1 (h := ?_) | refine w2 ?_ ?_ | refine w3 (h := ?_) | refine w4 (h := ?_) | refine hD _ _ ?_ | refine hL _ _ ?_ | (intro h; (try simp only [n1, n2, n3, n4, n5, n6] at h); first | (exfalso; omega) | (cases h; done) | skip)) <;> (conv => whnf))
  refine Tri.use ((tSTakes fx b.length (by omega)).one) [] rfl (fun _ _ _ => rfl) trivial (fun f hf => by first | exact hf | cases hf) (fun u hu => ?_)
  conv => whnf
  repeat' ((first | refine w1 (h := ?_) | refine w2 ?_ ?_ | refine w3 (h := ?_) | refine w4 (h := ?_) | refine hD _ _ ?_ | refine hL _ _ ?_ | (intro h; (try simp only [n1, n2, n3, n4, n5, n6] at h); first | (exfalso; omega) | (cases h; done) | skip)) <;> (conv => whnf))
  refine Tri.of_code tok Try.func51 rfl rfl rfl (by decide) rfl (Nat.le_of_ble_eq_true rfl) ?_
  conv => whnf
  repeat' ((first | refine w1 (h := ?_) | refine w2 ?_ ?_ | refine w3 (h := ?_) | refine w4 (h := ?_) | refine hD _ _ ?_ | refine hL _ _ ?_ | (intro h; (try simp only [n1, n2, n3, n4, n5, n6] at h); first | (exfalso; omega) | (cases h; done) | skip)) <;> (conv => whnf))
  refine draw_opaque fun KD hD => ?_
  refine draw_solid tok (by kernel_rfl) [.any 0, .any 1, .any 2, .any 6, .any 7, .any 8, .load 3, .load 9, .one 4, .any 5, .any 10, .any 11] [] (by kernel_rfl) rfl rfl (by repeat' (first | exact trivial | refine And.intro rfl ?_)) ?_
  conv => whnf
  repeat' ((first | refine w1 (h := ?_) | refine w2 ?_ ?_ | refine w3 (h := ?_) | refine w4 (h := ?_) | refine hD _ _ ?_ | refine hL _ _ ?_ | (intro h; (try simp only [n1, n2, n3, n4, n5, n6] at h); first | (exfalso; omega) | (cases h; done) | skip)) <;> (conv => whnf))
  refine Tri.use (pSize fx D d) [0] rfl (args_ren rfl rfl) ⟨OSub.ren rfl rfl, trivial⟩ (fun f hf => by first | exact hf | cases hf | simp_all) (fun u hu => ?_)
  conv => whnf
  repeat' ((first | refine w1 (h := ?_) | refine w2 ?_ ?_ | refine w3 (h := ?_) | refine w4 (h := ?_) | refine hD _ _ ?_ | refine hL _ _ ?_ | (intro h; (try simp only [n1, n2, n3, n4, n5, n6] at h); first | (exfalso; omega) | (cases h; done) | skip)) <;> (conv => whnf))
  refine Tri.use ((tSTakes fx b.length (by omega)).one) [] rfl (fun _ _ _ => rfl) trivial (fun f hf => by first | exact hf | cases hf) (fun u hu => ?_)
  conv => whnf
  repeat' ((first | refine w1 (h := ?_) | refine w2 ?_ ?_ | refine w3 (h := ?_) | refine w4 (h := ?_) | refine hD _ _ ?_ | refine hL _ _ ?_ | (intro h; (try simp only [n1, n2, n3, n4, n5, n6] at h); first | (exfalso; omega) | (cases h; done) | skip)) <;> (conv => whnf))
  refine draw_join (α := Nat × List Value) (fun x => ⟨[(0, .p 1 0), (1, .v (.slice A b.length cap)), (5, .v (.int .i64 (takesN b.length : Nat))), (6, .v (.slice (some ⟨x.1, 0, none⟩) (64 * takesN b.length) x.2.length))], [pdk 0 D d, (1, .cells [.v (ptrV D), .s 2 0 kept.length xs.length, .s 3 0 wait.length ys.length, .v (.int .i64 used), .v (.int .i64 next), .v (.bool false)] 115), (2, .row xs 22), (3, .row ys 22)], 4, rowFact x.1 x.2 5 :: fx⟩)
    (fun x => x.2.take (64 * takesN b.length) = (entB b).map bv ∧ 64 * takesN b.length ≤ x.2.length) (fun KJ hJ => ?_) ?_
  · refine draw_tree tok (by kernel_rfl) (.step (.any 0) <| .step (.any 1) <| .step (.any 3) <| .step (.any 4) <| .step (.any 5) <| .step (.any 6) <| .step (.any 7) <| .step (.any 8) <| .step (.any 9) <| .two 2 (.step (.one 10) <| .step (.one 11) <| .step (.one 12) <| .step (.any 13) .done) 10 (.step (.one 2) <| .step (.one 11) <| .step (.one 12) <| .step (.any 13) .done)) [] [] (by kernel_rfl) rfl rfl trivial ?_
    conv => whnf
    repeat' ((first | refine w1 (h := ?_) | refine w2 ?_ ?_ | refine w3 (h := ?_) | refine w4 (h := ?_) | refine hD _ _ ?_ | refine hL _ _ ?_ | (intro h; (try simp only [n1, n2, n3, n4, n5, n6] at h); first | (exfalso; omega) | (cases h; done) | skip)) <;> (conv => whnf))
    refine And.intro ?_ ?_
    all_goals
      conv => whnf
      repeat' ((first | refine w1 (h := ?_) | refine w2 ?_ ?_ | refine w3 (h := ?_) | refine w4 (h := ?_) | refine hD _ _ ?_ | refine hL _ _ ?_ | (intro h; (try simp only [n1, n2, n3, n4, n5, n6] at h); first | (exfalso; omega) | (cases h; done) | skip)) <;> (conv => whnf))
      try rw [hn2]
      refine Tri.use (tSPut fx b.length 2 (by omega) (by omega) (by omega)) [] rfl (args_ren rfl rfl) trivial (fun f hf => by first | exact hf | cases hf | simp_all) (fun u hu => ?_)
      conv => whnf
      repeat' ((first | refine w1 (h := ?_) | refine w2 ?_ ?_ | refine w3 (h := ?_) | refine w4 (h := ?_) | refine hD _ _ ?_ | refine hL _ _ ?_ | (intro h; (try simp only [n1, n2, n3, n4, n5, n6] at h); first | (exfalso; omega) | (cases h; done) | skip)) <;> (conv => whnf))
      try rw [hn2]
      first
        | refine Tri.use tcat [6, 4, 5] rfl (args_ren rfl rfl) ⟨OSub.ren rfl rfl, OSub.ren rfl rfl, OSub.ren rfl rfl, trivial⟩ (fun f hf => hf) (fun u hu => ?_)
        | refine Tri.use tcat [6, 5, 4] rfl (args_ren rfl rfl) ⟨OSub.ren rfl rfl, OSub.ren rfl rfl, OSub.ren rfl rfl, trivial⟩ (fun f hf => hf) (fun u hu => ?_)
      conv => whnf
      repeat' ((first | refine w1 (h := ?_) | refine w2 ?_ ?_ | refine w3 (h := ?_) | refine w4 (h := ?_) | refine hD _ _ ?_ | refine hL _ _ ?_ | (intro h; (try simp only [n1, n2, n3, n4, n5, n6] at h); first | (exfalso; omega) | (cases h; done) | skip)) <;> (conv => whnf))
      exact hJ _ u [0, 1, 2, 3] hu ⟨rfl, ⟨SEq.ren rfl rfl, fun _ _ _ => rfl, fun _ _ _ => rfl, fun _ _ _ => rfl, trivial⟩, ⟨OSub.ren rfl rfl, OSub.ren rfl rfl, OSub.ren rfl rfl, OSub.ren rfl rfl,trivial⟩, fun f hf => hf⟩
  rintro ⟨b1, XS⟩ ⟨hX1, hX2⟩
  simp only at hX1 hX2
  have hXb : ∀ i, i < takesN b.length → BytesAt (rowFact b1 XS 5 :: fx) (some ⟨b1, 64 * i, none⟩) (((entB b).drop (64 * i)).take 64) := fun i hi => by
    have hl : (((entB b).drop (64 * i)).take 64).length = 64 := by rw [List.length_take, List.length_drop]; omega
    refine BytesAt.row (List.mem_cons_self ..) ?_
    rw [hl, List.map_take, List.map_drop, ← hX1, List.drop_take, List.take_take, Nat.min_eq_left (by omega)]
  clear tcat
  conv => whnf
  repeat' ((first | refine w1 (h := ?_) | refine w2 ?_ ?_ | refine w3 (h := ?_) | refine w4 (h := ?_) | refine hD _ _ ?_ | refine hL _ _ ?_ | (intro h; (try simp only [n1, n2, n3, n4, n5, n6] at h); first | (exfalso; omega) | (cases h; done) | skip)) <;> (conv => whnf))
  refine loop_by tok (α := Nat × DS) (fun x => match x with | (i, e) => ⟨[(0, .p 1 0), (1, .v (.slice A b.length cap)), (5, .v (.int .i64 (takesN b.length : Nat))), (6, .v (.slice (some ⟨b1, 0, none⟩) (64 * takesN b.length) XS.length)), (45, .v (.int .i64 (takesN b.length : Nat))), (46, .v (.int .i64 (i : Int)))], [pdk 0 D e, (1, .cells [.v (ptrV D), .s 2 0 kept.length xs.length, .s 3 0 wait.length ys.length, .v (.int .i64 used), .v (.int .i64 next), .v (.bool false)] 115), (2, .row xs 22), (3, .row ys 22)], 4, rowFact b1 XS 5 :: fx⟩)
    (fun x => x.1 ≤ takesN b.length ∧ x.2.Ok ∧ x.2.l.length = d.l.length ∧ d.wrN ((3 + next : Nat) : Int) (entS b) = x.2.wrN ((3 + next + x.1 : Nat) : Int) ((entS b).drop x.1)) (fun x => takesN b.length - x.1) (0, d) [0, 1, 2, 3] ⟨Nat.zero_le _, hd, rfl, rfl⟩
    ⟨rfl, ⟨SEq.ren rfl rfl, fun _ _ _ => rfl, fun _ _ _ => rfl, fun _ _ _ => rfl, fun _ _ _ => rfl, fun _ _ _ => rfl, trivial⟩, ⟨OSub.ren rfl rfl, OSub.ren rfl rfl, OSub.ren rfl rfl, OSub.ren rfl rfl,trivial⟩, fun f hf => hf⟩ ?_
  rintro ⟨i, e⟩ ⟨hi, heo, hel2, hwr⟩
  simp only at hi heo hel2 hwr
  conv => whnf
  repeat' ((first | refine w1 (h := ?_) | refine w2 ?_ ?_ | refine w3 (h := ?_) | refine w4 (h := ?_) | refine hD _ _ ?_ | refine hL _ _ ?_ | (intro h; (try simp only [n1, n2, n3, n4, n5, n6] at h); first | (exfalso; omega) | (cases h; done) | skip)) <;> (conv => whnf))
  · have hi2 : i < takesN b.length := by omega
    have hl : (((entB b).drop (64 * i)).take 64).length = 64 := by rw [List.length_take, List.length_drop]; omega
    rw [entS_get hi2] at hwr
    have q3 : (i + 1) * 64 - i * 64 = 64 := by omega
    have q4 : ¬ XS.length = i * 64 := by omega
    refine draw_opaque fun KD hD => ?_
    refine draw_solid tok (by kernel_rfl) [.any 0, .any 1, .any 2, .any 4, .any 5, .any 6, .any 9, .any 11, .any 12, .any 13, .any 14, .any 15, .any 16, .any 17, .load 3, .one 7, .any 8, .any 10, .one 18, .any 19] [] (by kernel_rfl) rfl rfl (by repeat' (first | exact trivial | refine And.intro rfl ?_)) ?_
    conv => whnf
    repeat' ((first | (refine Exists.intro ((i + 1) * 64) (And.intro (by omega) ?_)) | (refine Exists.intro (i * 64) (And.intro (by omega) ?_)) | refine w1 (h := ?_) | refine w2 ?_ ?_ | refine w3 (h := ?_) | refine w4 (h := ?_) | refine hD _ _ ?_ | refine hL _ _ ?_ | (intro h; (try simp only [n1, n2, n3, n4, n5, n6] at h); first | (exfalso; omega) | (cases h; done) | skip)) <;> (conv => whnf))
    rw [q3, Option.map_some, if_neg q4, add_at, show 0 + i * 64 * 1 = 64 * i by omega]
    have tw := pWrite (rowFact b1 XS 5 :: fx) D e heo ((3 + next + i : Nat) : Int) (some ⟨b1, 64 * i, none⟩) (XS.length - i * 64) (((entB b).drop (64 * i)).take 64) (hXb i hi2)
    have hwo := heo.write ((3 + next + i : Nat) : Int) (((entB b).drop (64 * i)).take 64)
    have hwl : (e.write ((3 + next + i : Nat) : Int) (((entB b).drop (64 * i)).take 64)).2.l.length = d.l.length := by rw [write_len_eq, hel2]
    rw [hl] at tw
    rw [DS.wrN] at hwr
    refine Tri.use tw [0] rfl (args_ren rfl rfl) ⟨OSub.ren rfl rfl, trivial⟩ (fun f hf => by first | exact hf | cases hf | simp_all) (fun u hu => ?_)
    generalize e.write ((3 + next + i : Nat) : Int) (((entB b).drop (64 * i)).take 64) = ew at *
    conv => whnf
    repeat' ((first | refine w1 (h := ?_) | refine w2 ?_ ?_ | refine w3 (h := ?_) | refine w4 (h := ?_) | refine hD _ _ ?_ | refine hL _ _ ?_ | (intro h; (try simp only [n1, n2, n3, n4, n5, n6] at h); first | (exfalso; omega) | (cases h; done) | skip)) <;> (conv => whnf))
    · have hne := h
      rw [if_neg h] at hwr
      rw [hwr]
      refine Tri.of_code tok Try.func80 rfl rfl rfl (by decide) rfl (Nat.le_of_ble_eq_true rfl) ?_
      conv => whnf
      repeat' ((first | refine w1 (h := ?_) | refine w2 ?_ ?_ | refine w3 (h := ?_) | refine w4 (h := ?_) | refine hD _ _ ?_ | refine hL _ _ ?_ | (intro h; (try simp only [n1, n2, n3, n4, n5, n6] at h); first | (exfalso; omega) | (cases h; done) | skip)) <;> (conv => whnf))
      exact ⟨⟨none, []⟩, hne, sto_ret (s := ⟨kept, wait, used, next, decide (ew.1 = 6)⟩) ⟨.row xs, .row ys, hK, hW⟩ 2 3 (by decide) (by repeat first | exact List.mem_cons_self .. | apply List.mem_cons_of_mem) (by repeat first | exact List.mem_cons_self .. | apply List.mem_cons_of_mem) (fun xs e => by cases e <;> exact (by repeat first | exact List.mem_cons_self .. | apply List.mem_cons_of_mem)) (fun xs e => by cases e <;> exact (by repeat first | exact List.mem_cons_self .. | apply List.mem_cons_of_mem)) (fun ρ => rfl) rfl (SEq.ren rfl rfl) (fun _ h => nomatch h)⟩
    · rw [if_pos (by omega)] at hwr
      exact ⟨(i + 1, ew.2), [0, 1, 2, 3], ⟨⟨by simp only; omega, hwo, hwl, hwr⟩, by simp only; omega⟩, rfl, ⟨SEq.ren rfl rfl, fun _ _ _ => rfl, fun _ _ _ => rfl, fun _ _ _ => rfl, fun _ _ _ => rfl, SEq.eq rfl, trivial⟩, ⟨OSub.ren rfl rfl, OSub.ren rfl rfl, OSub.ren rfl rfl, OSub.ren rfl rfl,trivial⟩, fun f hf => hf⟩
  · have hit : i = takesN b.length := by omega
    subst hit
    rw [entS_end] at hwr
    replace hwr : d.wrN ((3 + next : Nat) : Int) (entS b) = (0, e) := hwr
    rw [hwr]
    have tc := tSClone (rowFact b1 XS 5 :: fx) A cap b (hB.mono fun f hf => List.mem_cons_of_mem _ hf) (by omega)
    refine draw_opaque fun KD hD => ?_
    refine draw_new tok (by kernel_rfl) [.any 0, .any 1, .any 2, .any 3, .any 5, .load 4, .one 6, .one 7, .one 8, .any 9, .any 10, .last 11] [11] ([(1, SObj.cells [.v (ptrV D), .s 2 0 kept.length xs.length, .s 3 0 wait.length ys.length, .v (.int .i64 used), .v (.int .i64 ((next : Int) + (takesN b.length : Nat))), .v (.bool false)] 115)]) (by kernel_rfl) rfl (rfl) (by repeat' (first | exact trivial | refine And.intro rfl ?_)) ?_
    conv => whnf
    repeat' ((first | refine w1 (h := ?_) | refine w2 ?_ ?_ | refine w3 (h := ?_) | refine w4 (h := ?_) | refine hD _ _ ?_ | refine hL _ _ ?_ | (intro h; (try simp only [n1, n2, n3, n4, n5, n6] at h); first | (exfalso; omega) | (cases h; done) | skip)) <;> (conv => whnf))
    refine Tri.use tc [] rfl (fun _ _ _ => rfl) trivial (fun f hf => hf) (fun u hu => ?_)
    obtain ⟨hob, hof⟩ := hu
    generalize u.1 = o at *
    generalize u.2 = f2 at *
    conv => whnf
    refine appFK_go ?_
    conv => whnf
    repeat' ((first | refine w1 (h := ?_) | refine w2 ?_ ?_ | refine w3 (h := ?_) | refine w4 (h := ?_) | refine hD _ _ ?_ | refine hL _ _ ?_ | (intro h; (try simp only [n1, n2, n3, n4, n5, n6] at h); first | (exfalso; omega) | (cases h; done) | skip)) <;> (conv => whnf))
    obtain ⟨hw1, hw2⟩ := hW
    refine And.intro ⟨by omega, hw2, by omega, fun u hu => by rw [List.mem_singleton.1 hu]; rfl⟩ ?_
    intro m0 sp0 hsp0
    conv => whnf
    repeat' ((first | refine w1 (h := ?_) | refine w2 ?_ ?_ | refine w3 (h := ?_) | refine w4 (h := ?_) | refine hD _ _ ?_ | refine hL _ _ ?_ | (intro h; (try simp only [n1, n2, n3, n4, n5, n6] at h); first | (exfalso; omega) | (cases h; done) | skip)) <;> (conv => whnf))
    have hrl : (ys.take (wait.length * 1) ++ [o.v] ++ sp0).length = wait.length + 1 + m0 := by simp only [List.length_append, List.length_take, List.length_singleton, hsp0, Nat.mul_one, Nat.min_eq_left hw2]
    have hW2 : RowI.Ok (wait ++ [o]) (.row (ys.take (wait.length * 1) ++ [o.v] ++ sp0)) := ⟨by rw [Nat.mul_one, hw1, List.take_left' (by simp)]; simp, by rw [hrl]; simp⟩
    have hwl : (wait ++ [o]).length = wait.length + 1 := by simp
    exact ⟨⟨some o, f2⟩, ⟨rfl, hob, hof⟩, sto_ret (s := ⟨kept, wait ++ [o], used, next + takesN b.length, false⟩) ⟨.row xs, .row _, hK, hW2⟩ 2 5 (by decide) (by repeat first | exact List.mem_cons_self .. | apply List.mem_cons_of_mem) (by repeat first | exact List.mem_cons_self .. | apply List.mem_cons_of_mem) (fun xs e => by cases e <;> exact (by repeat first | exact List.mem_cons_self .. | apply List.mem_cons_of_mem)) (fun xs e => by cases e <;> exact (by repeat first | exact List.mem_cons_self .. | apply List.mem_cons_of_mem)) (fun ρ => by rw [← hrl]; first | rfl | (rw [← hwl]; rfl)) rfl (fun _ _ _ => rfl) (fun g hg => List.mem_append_left _ hg)⟩
/-- An entry is appended; if a write fails, it doesn't wait. -/
theorem tSAppend (fx : List Fact) (D : Nat) (d : DS) (hd : d.Ok) (s : StS) (ho : s.over = false) (A : Option Addr) (cap : Nat) (b : List UInt8) (hB : BytesAt fx A b) (hb : b.length ≤ 200) (hroom : s.next + takesN b.length + 3 ≤ d.l.length) (hw : s.wait.length ≤ 100000) :
    Tri Try.prog 52 [.p 1 0, .v (.slice A b.length cap)] [pdk 0 D d, (1, .abs (stoA D s))] 2 fx
      (RetE (α := AppR) 2 (fun x => x.Ok (d.wrN ((3 + s.next : Nat) : Int) (entS b)).1 b) (fun x => .v (.int .i64 (d.wrN ((3 + s.next : Nat) : Int) (entS b)).1))
        (fun x => [pdk 0 D (d.wrN ((3 + s.next : Nat) : Int) (entS b)).2, (1, .abs (stoA D (x.sto s (d.wrN ((3 + s.next : Nat) : Int) (entS b)).1 (takesN b.length))))]) 2 (fun x => x.f)) := by
  refine Tri.toldE (told_sto D s) trivial 1 (by repeat first | exact List.mem_cons_self .. | apply List.mem_cons_of_mem) fun v => ?_
  obtain ⟨K, W, hK, hW⟩ := v
  obtain ⟨kept, wait, used, next, over⟩ := s
  simp only at ho hroom hw hK hW
  subst ho
  rcases K with _ | xs <;> rcases W with _ | ys
  · exact tSAppG0 fx D d hd kept wait used next hK hW A cap b hB hb hroom hw
  · exact tSAppG1 fx D d hd kept wait used next ys hK hW A cap b hB hb hroom hw
  · exact tSAppG2 fx D d hd kept wait used next xs hK hW A cap b hB hb hroom hw
  · exact tSAppG3 fx D d hd kept wait used next xs ys hK hW A cap b hB hb hroom hw
end Go.Proofs.Ytekgjjanikicnaa.Sx

namespace Go.Proofs.Ytekgjjanikicnaa.Sx
open Go
set_option maxRecDepth 100000
set_option linter.unusedSimpArgs false
set_option linter.unusedVariables false
theorem Up.wrN {N : Nat} : ∀ {l : List Sec} {d : DS} {i : Nat}, Up N d → i + l.length ≤ N → (∀ b ∈ l, b.length = 64) → (d.wrN (i : Int) l).1 = 0 ∧ Up N (d.wrN (i : Int) l).2
  | [], d, i, h, _, _ => ⟨rfl, h⟩
  | b :: r, d, i, h, hi, hb => by
    rw [List.length_cons] at hi
    have hb0 := hb b (List.mem_cons_self ..)
    have e := h.write_eq (i := i) (by omega) hb0
    unfold DS.wrN
    rw [e, if_pos rfl]
    exact Up.wrN (i := i + 1) (h.put (by omega) hb0) (by omega) (fun c hc => hb c (List.mem_cons_of_mem _ hc))
theorem Up.com {N : Nat} {d : DS} (h : Up N d) (hN : 3 ≤ N) (n u : Nat) : (d.com n u).1 = 0 ∧ Up N (d.com n u).2 := by
  have hs : d.sync.1 = 0 := by rw [h.sync_eq]
  unfold DS.com
  rw [if_pos hs, ← com_save]
  obtain ⟨a, b, _⟩ := h.sync.save (p := 0) (by omega) (b := putB n 8 ++ putB u 8) (by simp)
  exact ⟨a, b⟩
/-- A steady store is opened. -/
theorem tSOpenSted (fx : List Fact) (D : Nat) (d : DS) {N : Nat} {K : List (List UInt8)} (h : Sted N K d) (hd : d.down = false) :
    Tri Try.prog 48 [.v (ptrV D)] [pdk 0 D d] 1 fx (RetE (α := List BsV × List Fact) 1 (fun x => x.1.map BsV.bs = K ∧ ∀ b ∈ x.1, b.Fit (x.2 ++ fx)) (fun _ => .tup [.p 1 0, .k .i64 0])
      (fun x => [pdk 0 D d, (1, .abs (stoA D ⟨x.1, [], useN K, useN K, false⟩))]) 2 (fun x => x.2)) := by
  have hl := h.len
  have hf := h.fits
  have hol := h.ok.len
  have hu := useN_ge K
  have hm := mkU_mkV (n := K.length) (u := useN K) (by omega)
  have hg := h.get
  rw [← hl] at hg
  have T := tSOpen fx D d h.ok hd (by omega) d (h.mend hd) h.ok hd rfl
  rw [h.val, hg, show (mkU (mkL K)).toNat = useN K by rw [show mkU (mkL K) = useN K from hm]; rfl] at T
  refine T.conv.mono fun y hp m f ⟨⟨kept, gs⟩, hx, e1, e2, e3, e4⟩ => ?_
  subst e1 e2 e3 e4
  cases kept with
  | none => exact absurd hx (by simp [OpR.Ok])
  | some l =>
    obtain ⟨hx1, hx2⟩ := hx
    exact ⟨(l, _), ⟨(Option.some.inj hx1).symm, hx2⟩, Ret.mk [0, 1] [pdk 0 D d, (1, .abs (stoA D ⟨l, [], useN K, useN K, false⟩))] (Fold.refl _) rfl (SEq.ren rfl rfl) ⟨OSub.ren rfl rfl, OSub.ren rfl rfl, trivial⟩ (fun _ h => h)⟩
/-- On a disk whose power stays, an entry that there is room for is appended. -/
theorem tSAppUp (fx : List Fact) (D : Nat) (d : DS) {N : Nat} {K w : List (List UInt8)} (hU : Up N d) (hL : Live N K w d) (s : StS) (hs : s.over = false) (hn : s.next = useN K + useN w) (A : Option Addr) (cap : Nat) (b : List UInt8) (hB : BytesAt fx A b) (hb : b.length ≤ 200) (hroom : s.next + takesN b.length + 3 ≤ N) (hw : s.wait.length ≤ 100000) :
    Tri Try.prog 52 [.p 1 0, .v (.slice A b.length cap)] [pdk 0 D d, (1, .abs (stoA D s))] 2 fx
      (RetE (α := BsV × DS × List Fact) 2 (fun x => x.1.bs = b ∧ x.1.Fit x.2.2 ∧ Up N x.2.1 ∧ Live N K (w ++ [b]) x.2.1) (fun x => .k .i64 0)
        (fun x => [pdk 0 D x.2.1, (1, .abs (stoA D ⟨s.kept, s.wait ++ [x.1], s.used, s.next + takesN b.length, false⟩))]) 2 (fun x => x.2.2)) := by
  have hlen := hU.len
  have T := tSAppend fx D d hU.ok s hs A cap b hB hb (by omega) hw
  obtain ⟨a1, a2⟩ := hU.wrN (i := 3 + s.next) (l := entS b) (by rw [entS_length]; omega) entS_sec
  have hl2 := hL.append_ok hb (by omega) (by rw [← hn]; exact a1)
  rw [← hn] at hl2
  refine T.conv.mono fun y hp m f ⟨⟨o, gs⟩, hx, e1, e2, e3, e4⟩ => ?_
  subst e1 e2 e3 e4
  cases o with
  | none => exact absurd a1 hx
  | some o =>
    obtain ⟨_, hx1, hx2⟩ := hx
    obtain ⟨kept, wait, used, next, over⟩ := s
    simp only at hs
    subst hs
    exact ⟨(o, _, _), ⟨hx1, hx2, a2, hl2⟩, Ret.mk [0, 1] [pdk 0 D _, (1, .abs (stoA D ⟨kept, wait ++ [o], used, next + takesN b.length, false⟩))] (Fold.refl _) rfl (fun _ _ _ => by simp only [den]; rw [a1]) ⟨OSub.ren rfl rfl, OSub.ren rfl rfl, trivial⟩ (fun _ h => h)⟩
/-- And what waits is kept. -/
theorem tSComUp (fx : List Fact) (D : Nat) (d : DS) {N : Nat} {K w : List (List UInt8)} (hU : Up N d) (hL : Live N K w d) (s : StS) (hs : s.over = false) (hn : s.next = useN K + useN w) (hk : s.kept.map BsV.bs = K) (hw : s.wait.map BsV.bs = w) (hu : s.used = useN K) (hwl : s.wait.length ≤ 100000) :
    Tri Try.prog 56 [.p 1 0] [pdk 0 D d, (1, .abs (stoA D s))] 2 fx
      (RetE (α := DS) 2 (fun e => Up N e ∧ Live N (K ++ w) [] e) (fun _ => .k .i64 0) (fun e => [pdk 0 D e, (1, .abs (stoA D ⟨s.kept ++ s.wait, [], s.next, s.next, false⟩))]) 2 (fun _ => [])) := by
  have hlen := hU.len
  have hok := hU.ok.len
  have hf := hL.fits
  have hge := useN_ge K
  have hkl : s.kept.length = K.length := by rw [← hk, List.length_map]
  have hwl2 : s.wait.length = w.length := by rw [← hw, List.length_map]
  by_cases h0 : s.wait = []
  · have hw0 : w = [] := by rw [← hw, h0]; rfl
    subst hw0
    have T := tSComNo fx D d s 0 (.inr ⟨hs, h0, rfl⟩)
    refine T.conv.mono fun y hp m f ⟨_, _, e1, e2, e3, e4⟩ => ?_
    subst e1 e2 e3 e4
    obtain ⟨kept, wait, used, next, over⟩ := s
    simp only at hs h0 hn hu
    subst hs h0
    rw [useN_nil, Nat.add_zero] at hn
    subst hu hn
    refine ⟨d, ⟨hU, by rw [List.append_nil]; exact hL⟩, ?_⟩
    simp only [List.append_nil]
    exact Ret.mk [0, 1] [pdk 0 D d, (1, .abs (stoA D ⟨kept, [], useN K, useN K, false⟩))] (Fold.refl _) rfl (fun _ _ _ => rfl) ⟨OSub.ren rfl rfl, OSub.ren rfl rfl, trivial⟩ (fun _ h => h)
  · have T := tSCommit fx D d hU.ok s hs h0 (by omega) hwl (by omega)
    obtain ⟨a1, a2⟩ := hU.com (by omega) (s.kept.length + s.wait.length) s.next
    have hsy : d.sync.1 = 0 := by rw [hU.sync_eq]
    have hmk : mkV (s.kept.length + s.wait.length) s.next = mkL (K ++ w) := by
      rw [mkL, useN_append, List.length_append, hkl, hwl2, hn]
    have hc : d.com (s.kept.length + s.wait.length) s.next = d.sync.2.putN ((0 : Nat) : Int) (mkL (K ++ w)) 3 := by rw [← hmk]; exact if_pos hsy
    have hl2 : Live N (K ++ w) [] (d.com (s.kept.length + s.wait.length) s.next).2 := by
      rcases hL.commit hsy with ⟨e, _⟩ | ⟨_, e⟩
      · rw [← hc] at e; exact absurd a1 e
      · rw [hc]; exact e
    refine T.conv.mono fun y hp m f ⟨_, _, e1, e2, e3, e4⟩ => ?_
    subst e1 e2 e3 e4
    have hsc : s.com (d.com (s.kept.length + s.wait.length) s.next).1 = ⟨s.kept ++ s.wait, [], s.next, s.next, false⟩ := if_pos a1
    refine ⟨_, ⟨a2, hl2⟩, ?_⟩
    rw [hsc]
    exact Ret.mk [0, 1] [pdk 0 D _, (1, .abs (stoA D ⟨s.kept ++ s.wait, [], s.next, s.next, false⟩))] (Fold.refl _) rfl (fun _ _ _ => by simp only [den]; rw [a1]) ⟨OSub.ren rfl rfl, OSub.ren rfl rfl, trivial⟩ (fun _ h => h)
theorem tAwake15 (fx : List Fact) : Tri Try.prog 47 [] [] 0 fx (Ret 0 (.b true) [] 0 []) := by
  have hst := new_sted (N := 9) (by decide) (by decide)
  have hU := Up.new (N := 9) (by decide)
  refine Tri.of_code tok Try.func47 rfl rfl rfl (by decide) rfl (Nat.le_of_ble_eq_true rfl) ?_
  conv => whnf
  repeat' ((first | refine w1 (h := ?_) | refine w2 ?_ ?_ | refine w3 (h := ?_) | refine w4 (h := ?_) | refine hD _ _ ?_ | refine hL _ _ ?_ | (intro h; (try simp only [n1, n2, n3, n4, n5, n6] at h); first | (exfalso; omega) | (cases h; done) | skip)) <;> (conv => whnf))
  refine Tri.use (pNew fx 9 (by decide)) [] rfl (args_ren rfl rfl) trivial (fun f hf => hf) (fun D _ => ?_)
  conv => whnf
  repeat' ((first | refine w1 (h := ?_) | refine w2 ?_ ?_ | refine w3 (h := ?_) | refine w4 (h := ?_) | refine hD _ _ ?_ | refine hL _ _ ?_ | (intro h; (try simp only [n1, n2, n3, n4, n5, n6] at h); first | (exfalso; omega) | (cases h; done) | skip)) <;> (conv => whnf))
  refine Tri.use (tSOpenSted fx D (DS.new 9) hst rfl) [0] rfl (args_ren rfl rfl) ⟨OSub.ren rfl rfl, trivial⟩ (fun f hf => hf) (fun u hu => ?_)
  obtain ⟨l, fl⟩ := u
  obtain ⟨hl, hlf⟩ := hu
  obtain rfl : l = [] := by simpa using hl
  conv => whnf
  refine appFK_go ?_
  conv => whnf
  repeat' ((first | refine w1 (h := ?_) | refine w2 ?_ ?_ | refine w3 (h := ?_) | refine w4 (h := ?_) | refine hD _ _ ?_ | refine hL _ _ ?_ | (intro h; (try simp only [n1, n2, n3, n4, n5, n6] at h); first | (exfalso; omega) | (cases h; done) | skip)) <;> (conv => whnf))
  refine Tri.lend 2 (xs := [.int .u8 97]) (T := 5) (fun b1 => [.p 1 0, .v (.slice (some ⟨b1, 0, none⟩) 1 1)]) (by repeat first | exact List.mem_cons_self .. | apply List.mem_cons_of_mem) (rowOf.cells fun ρ => rfl) (fun _ => rfl) fun b1 => ?_
  refine Tri.use (tSAppUp (rowFact b1 [.int .u8 97] 5 :: (fl ++ fx)) D (DS.new 9) hU (hst.live rfl) ⟨[], [], useN [], useN [], false⟩ rfl rfl (some ⟨b1, 0, none⟩) 1 [97] (BytesAt.row (List.mem_cons_self ..) rfl) (by decide) (by decide) (by decide)) [0, 1] rfl (args_ren rfl rfl) ⟨OSub.ren rfl rfl, OSub.ren rfl rfl, trivial⟩ (fun f hf => hf) fun u hu => ?_
  obtain ⟨o, e, f2⟩ := u
  obtain ⟨h1, h2, h3, h4⟩ := hu
  simp only at h1 h2 h3 h4
  conv => whnf
  refine appFK_go ?_
  conv => whnf
  refine And.intro rfl ?_
  conv => whnf
  repeat' ((first | refine w1 (h := ?_) | refine w2 ?_ ?_ | refine w3 (h := ?_) | refine w4 (h := ?_) | refine hD _ _ ?_ | refine hL _ _ ?_ | (intro h; (try simp only [n1, n2, n3, n4, n5, n6] at h); first | (exfalso; omega) | (cases h; done) | skip)) <;> (conv => whnf))
  have hw : [o].map BsV.bs = [[97]] := by simp [h1]
  refine Tri.use (tSComUp _ D e h3 h4 ⟨[], [] ++ [o], useN [], useN [] + takesN [(97 : UInt8)].length, false⟩ rfl rfl rfl hw rfl (by simp)) [0, 1] rfl (args_ren rfl rfl) ⟨OSub.ren rfl rfl, OSub.ren rfl rfl, trivial⟩ (fun f hf => hf) fun e2 _ => ?_
  conv => whnf
  repeat' ((first | refine w1 (h := ?_) | refine w2 ?_ ?_ | refine w3 (h := ?_) | refine w4 (h := ?_) | refine hD _ _ ?_ | refine hL _ _ ?_ | (intro h; (try simp only [n1, n2, n3, n4, n5, n6] at h); first | (exfalso; omega) | (cases h; done) | skip)) <;> (conv => whnf))
  refine Tri.use (tSLen _ D _) [1] rfl (args_ren rfl rfl) ⟨OSub.ren rfl rfl, trivial⟩ (fun f hf => hf) fun _ _ => ?_
  conv => whnf
  repeat' ((first | refine w1 (h := ?_) | refine w2 ?_ ?_ | refine w3 (h := ?_) | refine w4 (h := ?_) | refine hD _ _ ?_ | refine hL _ _ ?_ | (intro h; (try simp only [n1, n2, n3, n4, n5, n6] at h); first | (exfalso; omega) | (cases h; done) | skip)) <;> (conv => whnf))
  exact Ret.mk [] [] (Fold.drop (by simp)) rfl (fun _ _ _ => rfl) trivial (fun _ h => nomatch h)
end Go.Proofs.Ytekgjjanikicnaa.Sx

namespace Go.Proofs.Ytekgjjanikicnaa.Sx
open Go
set_option maxRecDepth 100000
set_option linter.unusedSimpArgs false
set_option linter.unusedVariables false
theorem Up.fix {N : Nat} {v : Sec} (hv : v.length = 64) : ∀ {l : List Sec} {d : DS} {i : Nat}, Up N d → i + l.length ≤ N → (d.fix (i : Int) v l).1 = 0 ∧ Up N (d.fix (i : Int) v l).2 ∧ ∀ j, j < N → (d.fix (i : Int) v l).2.get j = if i ≤ j ∧ j < i + l.length ∧ l.getD (j - i) [] ≠ v then v else d.get j
  | [], d, i, h, _ => ⟨rfl, h, fun j hj => by rw [if_neg (by simp; omega)]; rfl⟩
  | x :: r, d, i, h, hi => by
    rw [List.length_cons] at hi
    rw [fix_step]
    by_cases hx : x = v
    · rw [if_pos hx]
      obtain ⟨a1, a2, a3⟩ := Up.fix hv (l := r) (i := i + 1) h (by omega)
      refine ⟨a1, a2, fun j hj => ?_⟩
      have := a3 j hj
      rw [show ((i + 1 : Nat) : Int) = (i : Int) + 1 from rfl] at this
      rw [this, List.length_cons]
      by_cases hj1 : j = i
      · subst hj1
        rw [if_neg (by omega), if_neg (by rw [Nat.sub_self]; rintro ⟨_, _, h3⟩; exact h3 hx)]
      · by_cases hj2 : i + 1 ≤ j
        · have e : (x :: r).getD (j - i) [] = r.getD (j - (i + 1)) [] := by rw [show j - i = (j - (i + 1)) + 1 by omega]; rfl
          rw [e]
          congr 1
          apply propext
          constructor
          · rintro ⟨_, b, c⟩; exact ⟨by omega, by omega, c⟩
          · rintro ⟨_, b, c⟩; exact ⟨by omega, by omega, c⟩
        · rw [if_neg (by omega), if_neg (by omega)]
    · rw [if_neg hx]
      obtain ⟨p1, p2, p3⟩ := h.putS_eq (i := i) (by omega) hv
      rw [if_pos p1]
      obtain ⟨a1, a2, a3⟩ := Up.fix hv (l := r) (i := i + 1) p2 (by omega)
      refine ⟨a1, a2, fun j hj => ?_⟩
      have := a3 j hj
      rw [show ((i + 1 : Nat) : Int) = (i : Int) + 1 from rfl] at this
      rw [this, p3 j hj, List.length_cons]
      by_cases hj1 : j = i
      · subst hj1
        rw [if_neg (by omega), if_pos rfl, if_pos (by rw [Nat.sub_self]; exact ⟨by omega, by omega, hx⟩)]
      · by_cases hj2 : i + 1 ≤ j
        · have e : (x :: r).getD (j - i) [] = r.getD (j - (i + 1)) [] := by rw [show j - i = (j - (i + 1)) + 1 by omega]; rfl
          rw [e, if_neg hj1]
          congr 1
          apply propext
          constructor
          · rintro ⟨_, b, c⟩; exact ⟨by omega, by omega, c⟩
          · rintro ⟨_, b, c⟩; exact ⟨by omega, by omega, c⟩
        · rw [if_neg (by omega), if_neg hj1, if_neg (by omega)]
/-- A mend with a power that stays. -/
theorem Up.mend {N : Nat} {d : DS} (h : Up N d) (hN : 3 ≤ N) : ∃ e, d.mend ((0 : Nat) : Int) = (0, e) ∧ Up N e ∧ (∀ j, j < 3 → e.get j = d.val ((0 : Nat) : Int)) := by
  have hl := h.len
  have hv : (d.val ((0 : Nat) : Int)).length = 64 := by
    rw [val_nat]; unfold val3
    split <;> exact h.ok.get_length (by omega)
  have hm := mend_nat (lerr_ok h.up (p := 0) (by omega))
  obtain ⟨a1, a2, a3⟩ := Up.fix hv (l := rest3 d 0 0) (d := d) (i := 0) h (by simp only [rest3, List.length_cons, List.length_nil]; omega)
  refine ⟨(d.mend ((0 : Nat) : Int)).2, by rw [← hm] at a1; rw [← a1], by rw [hm]; exact a2, fun j hj => ?_⟩
  rw [hm, a3 j (by omega)]
  have e : (rest3 d 0 0).getD j [] = d.get j := by
    have : j = 0 ∨ j = 1 ∨ j = 2 := by omega
    rcases this with rfl | rfl | rfl <;> rfl
  by_cases hc : d.get j = d.val ((0 : Nat) : Int)
  · rw [if_neg (by rw [Nat.sub_zero, e]; rintro ⟨_, _, h3⟩; exact h3 hc), hc]
  · rw [if_pos (by rw [Nat.sub_zero, e]; exact ⟨Nat.zero_le _, by simp only [rest3, List.length_cons, List.length_nil]; omega, hc⟩)]
theorem mend_steady {d : DS} {x : Sec} (hl : d.lerr ((0 : Nat) : Int) = 0) (h0 : ∀ j, j < 3 → d.get j = x) : d.mend ((0 : Nat) : Int) = (0, d) ∧ d.val ((0 : Nat) : Int) = x := by
  have a0 := h0 0 (by omega)
  have a1 := h0 1 (by omega)
  have a2 := h0 2 (by omega)
  have hv : d.val ((0 : Nat) : Int) = x := by rw [val_nat, a0, a1, a2]; simp [val3]
  refine ⟨?_, hv⟩
  rw [mend_nat hl, hv]
  simp [rest3, a0, a1, a2, DS.fix]
set_option maxHeartbeats 4000000 in
theorem tStoreAny (fx : List Fact) (A : Option Addr) (cap : Nat) (l : List BsV) (hL : BssAt fx A l) (hc : l.length ≤ cap ∧ cap ≤ maxLen) :
    Tri Try.prog 17 [.v (.slice A l.length cap)] [] 0 fx (Ret 0 (.b true) [] 0 []) := by
  refine Tri.of_code tok Try.func17 rfl rfl rfl (by decide) rfl (Nat.le_of_ble_eq_true rfl) ?_
  conv => whnf
  repeat' ((first | refine w1 (h := ?_) | refine w2 ?_ ?_ | refine w3 (h := ?_) | refine w4 (h := ?_) | refine hD _ _ ?_ | refine hL _ _ ?_ | (intro h; (try simp only [n1, n2, n3, n4, n5, n6] at h); first | (exfalso; omega) | (cases h; done) | skip)) <;> (conv => whnf))
  refine Tri.use (tAwake15 fx).one [] rfl (args_ren rfl rfl) trivial (fun f hf => by first | exact hf | cases hf | simp_all) (fun u hu => ?_)
  conv => whnf
  repeat' ((first | refine w1 (h := ?_) | refine w2 ?_ ?_ | refine w3 (h := ?_) | refine w4 (h := ?_) | refine hD _ _ ?_ | refine hL _ _ ?_ | (intro h; (try simp only [n1, n2, n3, n4, n5, n6] at h); first | (exfalso; omega) | (cases h; done) | skip)) <;> (conv => whnf))
  · refine Tri.use (tAwake15 fx).one [] rfl (args_ren rfl rfl) trivial (fun f hf => by first | exact hf | cases hf | simp_all) (fun u hu => ?_)
    conv => whnf
    repeat' ((first | refine w1 (h := ?_) | refine w2 ?_ ?_ | refine w3 (h := ?_) | refine w4 (h := ?_) | refine hD _ _ ?_ | refine hL _ _ ?_ | (intro h; (try simp only [n1, n2, n3, n4, n5, n6] at h); first | (exfalso; omega) | (cases h; done) | skip)) <;> (conv => whnf))
    exact Ret.noneS rfl (fun _ _ => rfl) (fun _ h => nomatch h)
  have h60 : l.length ≤ 60 := by omega
  refine Tri.use (pNew fx l.length (by omega)) [] rfl (args_ren rfl rfl) trivial (fun f hf => hf) (fun D _ => ?_)
  conv => whnf
  repeat' ((first | refine w1 (h := ?_) | refine w2 ?_ ?_ | refine w3 (h := ?_) | refine w4 (h := ?_) | refine hD _ _ ?_ | refine hL _ _ ?_ | (intro h; (try simp only [n1, n2, n3, n4, n5, n6] at h); first | (exfalso; omega) | (cases h; done) | skip)) <;> (conv => whnf))
  refine loop_by tok (α := Nat × DS) (fun x => match x with | (i, e) => ⟨[(0, .v (.slice A l.length cap)), (3, .v (ptrV D)), (5, .v (.int .i64 (i : Int)))], [pdk 0 D e], 1, fx⟩) (fun x => x.1 ≤ l.length ∧ Up l.length x.2) (fun x => l.length - x.1) (0, DS.new l.length) [0] ⟨Nat.zero_le _, Up.new (by omega)⟩
    ⟨rfl, ⟨fun _ _ _ => rfl, fun _ _ _ => rfl, fun _ _ _ => rfl, trivial⟩, ⟨OSub.ren rfl rfl, trivial⟩, fun f hf => hf⟩ ?_
  rintro ⟨i, e⟩ ⟨hi, hU⟩
  simp only at hi hU
  conv => whnf
  repeat' ((first | refine w1 (h := ?_) | refine w2 ?_ ?_ | refine w3 (h := ?_) | refine w4 (h := ?_) | refine hD _ _ ?_ | refine hL _ _ ?_ | (intro h; (try simp only [n1, n2, n3, n4, n5, n6] at h); first | (exfalso; omega) | (cases h; done) | skip)) <;> (conv => whnf))
  · have hlt : i < l.length := by omega
    obtain ⟨ad, rfl, hok, hF⟩ := hL.get hlt
    conv => whnf
    repeat' ((first | refine w1 (h := ?_) | refine w2 ?_ ?_ | refine w3 (h := ?_) | refine w4 (h := ?_) | refine hD _ _ ?_ | refine hL _ _ ?_ | (intro h; (try simp only [n1, n2, n3, n4, n5, n6] at h); first | (exfalso; omega) | (cases h; done) | skip)) <;> (conv => whnf))
    refine Tri.use (pWrite fx D e hU.ok (i : Int) l[i].B l[i].cap l[i].bs hok.b) [0] rfl (args_ren rfl rfl) ⟨OSub.ren rfl rfl, trivial⟩ (fun f hf => hf) fun _ _ => ?_
    conv => whnf
    repeat' ((first | refine w1 (h := ?_) | refine w2 ?_ ?_ | refine w3 (h := ?_) | refine w4 (h := ?_) | refine hD _ _ ?_ | refine hL _ _ ?_ | (intro h; (try simp only [n1, n2, n3, n4, n5, n6] at h); first | (exfalso; omega) | (cases h; done) | skip)) <;> (conv => whnf))
    exact ⟨(i + 1, (e.write (i : Int) l[i].bs).2), [0], ⟨⟨by simp only; omega, hU.write _ _⟩, by simp only; omega⟩, rfl, ⟨fun _ _ _ => rfl, fun _ _ _ => rfl, SEq.eq rfl, trivial⟩, ⟨OSub.ren rfl rfl, trivial⟩, fun f hf => hf⟩
  have hel := hU.len
  clear hi
  by_cases h3 : l.length < 3
  · have he : e.lerr ((0 : Nat) : Int) = 3 := by
      have hd := hU.up
      have r : ∀ k : Int, 0 ≤ k → e.rerr k = if k < l.length then 0 else 3 := fun k hk => by
        unfold DS.rerr DS.inb
        rw [if_neg (by simp [hd]), hel]
        by_cases h : k < l.length
        · rw [if_pos (by simp; omega), if_pos h]
        · rw [if_neg (by simp; omega), if_neg h]
      unfold DS.lerr
      rw [r _ (by omega), r _ (by omega), r _ (by omega)]
      repeat' split
      all_goals omega
    have T := tSOpenErr fx D e hU.ok (by rw [he]; decide)
    rw [he] at T
    replace T := T.reval (v' := .tup [.v (.pointer none), .k .i64 3]) (fun _ => rfl)
    refine Tri.use T [0] rfl (args_ren rfl rfl) ⟨OSub.ren rfl rfl, trivial⟩ (fun f hf => by first | exact hf | cases hf | simp_all) (fun u hu => ?_)
    conv => whnf
    repeat' ((first | refine w1 (h := ?_) | refine w2 ?_ ?_ | refine w3 (h := ?_) | refine w4 (h := ?_) | refine hD _ _ ?_ | refine hL _ _ ?_ | (intro h; (try simp only [n1, n2, n3, n4, n5, n6] at h); first | (exfalso; omega) | (cases h; done) | skip)) <;> (conv => whnf))
    refine Tri.use T [0] rfl (args_ren rfl rfl) ⟨OSub.ren rfl rfl, trivial⟩ (fun f hf => by first | exact hf | cases hf | simp_all) (fun u hu => ?_)
    conv => whnf
    repeat' ((first | refine w1 (h := ?_) | refine w2 ?_ ?_ | refine w3 (h := ?_) | refine w4 (h := ?_) | refine hD _ _ ?_ | refine hL _ _ ?_ | (intro h; (try simp only [n1, n2, n3, n4, n5, n6] at h); first | (exfalso; omega) | (cases h; done) | skip)) <;> (conv => whnf))
    exact Ret.mk [] [] (Fold.drop (by simp)) rfl (fun _ _ _ => by simp [den]; omega) trivial (fun _ h => nomatch h)
  · obtain ⟨e1, hm, hU1, hg1⟩ := hU.mend (by omega)
    have hel1 := hU1.len
    obtain ⟨hm1, hv1⟩ := mend_steady (lerr_ok hU1.up (by omega)) hg1
    have T1 := tSOpen fx D e hU.ok hU.up (by omega) e1 hm hU1.ok hU1.up (by omega)
    have T2 := fun fx => tSOpen fx D e1 hU1.ok hU1.up (by omega) e1 hm1 hU1.ok hU1.up rfl
    have hlen2 : e1.l.length = e.l.length := by omega
    rw [hlen2] at T2
    have hsome := fun l' => opnV_some (g := e1.get) (size := e.l.length) (v := e1.val ((0 : Nat) : Int)) (l := l')
    generalize opnV e1.get e.l.length (e1.val ((0 : Nat) : Int)) = o at *
    refine Tri.use T1 [0] rfl (args_ren rfl rfl) ⟨OSub.ren rfl rfl, trivial⟩ (fun f hf => hf) fun u hu => ?_
    obtain ⟨kept, f1⟩ := u
    cases kept with
    | none =>
      have ho : o = none := hu
      conv => whnf
      refine appFK_go ?_
      conv => whnf
      repeat' ((first | refine w1 (h := ?_) | refine w2 ?_ ?_ | refine w3 (h := ?_) | refine w4 (h := ?_) | refine hD _ _ ?_ | refine hL _ _ ?_ | (intro h; (try simp only [n1, n2, n3, n4, n5, n6] at h); first | (exfalso; omega) | (cases h; done) | skip)) <;> (conv => whnf))
      refine Tri.use (T2 (f1 ++ fx)) [0] rfl (args_ren rfl rfl) ⟨OSub.ren rfl rfl, trivial⟩ (fun f hf => hf) fun u hu => ?_
      obtain ⟨kept, f2⟩ := u
      cases kept with
      | some l2 => obtain ⟨h1, _⟩ := hu; rw [ho] at h1; cases h1
      | none =>
        conv => whnf
        refine appFK_go ?_
        conv => whnf
        repeat' ((first | refine w1 (h := ?_) | refine w2 ?_ ?_ | refine w3 (h := ?_) | refine w4 (h := ?_) | refine hD _ _ ?_ | refine hL _ _ ?_ | (intro h; (try simp only [n1, n2, n3, n4, n5, n6] at h); first | (exfalso; omega) | (cases h; done) | skip)) <;> (conv => whnf))
        exact Ret.mk [] [] (Fold.drop (by simp)) rfl (fun _ _ _ => rfl) trivial (fun _ h => nomatch h)
    | some l1 =>
      obtain ⟨ho, hf1⟩ := hu
      conv => whnf
      refine appFK_go ?_
      conv => whnf
      repeat' ((first | refine w1 (h := ?_) | refine w2 ?_ ?_ | refine w3 (h := ?_) | refine w4 (h := ?_) | refine hD _ _ ?_ | refine hL _ _ ?_ | (intro h; (try simp only [n1, n2, n3, n4, n5, n6] at h); first | (exfalso; omega) | (cases h; done) | skip)) <;> (conv => whnf))
      refine Tri.use (T2 (f1 ++ fx)) [0] rfl (args_ren rfl rfl) ⟨OSub.ren rfl rfl, trivial⟩ (fun f hf => hf) fun u hu => ?_
      obtain ⟨kept, f2⟩ := u
      cases kept with
      | none => have h1 : o = none := hu; rw [ho] at h1; cases h1
      | some l2 =>
        obtain ⟨ho2, hf2⟩ := hu
        conv => whnf
        refine appFK_go ?_
        conv => whnf
        repeat' ((first | refine w1 (h := ?_) | refine w2 ?_ ?_ | refine w3 (h := ?_) | refine w4 (h := ?_) | refine hD _ _ ?_ | refine hL _ _ ?_ | (intro h; (try simp only [n1, n2, n3, n4, n5, n6] at h); first | (exfalso; omega) | (cases h; done) | skip)) <;> (conv => whnf))
        obtain ⟨q1, q2, q3, _, q5, q6⟩ := hsome _ ho
        obtain ⟨U, hUv⟩ := Int.eq_ofNat_of_zero_le q2
        have hU2 : (mkU (e1.val ((0 : Nat) : Int))).toNat = U := by rw [hUv, Int.toNat_natCast]
        rw [hU2] at q5 ⊢
        obtain ⟨r1, r2, r3, r4⟩ := rdAll_le q5 (Nat.zero_le _)
        have hll : l1.map BsV.bs = l2.map BsV.bs := by rw [ho] at ho2; exact Option.some.inj ho2
        have hn1 : l1.length ≤ 60 := by rw [List.length_map] at q6; omega
        have hn2 : l2.length ≤ 60 := by have := congrArg List.length hll; rw [List.length_map, List.length_map] at this; omega
        have hs1 : ∀ b ∈ l1, b.bs.length ≤ 200 := fun b hb => r4 _ (List.mem_map.2 ⟨b, hb, rfl⟩)
        have hs2 : ∀ b ∈ l2, b.bs.length ≤ 200 := fun b hb => r4 _ (by rw [hll]; exact List.mem_map.2 ⟨b, hb, rfl⟩)
        have hU60 : U + 3 ≤ l.length := by omega
        have T3 := tSKept (f2 ++ (f1 ++ fx)) D ⟨l1, [], U, U, false⟩ (by simp only; omega) (fun b hb => (hf1 b hb).mono fun f hf => List.mem_append_right _ hf) (fun b hb => by have := hs1 b hb; omega)
        refine Tri.use T3 [1] rfl (args_ren rfl rfl) ⟨OSub.ren rfl rfl, trivial⟩ (fun f hf => hf) fun x hx => ?_
        obtain ⟨hxp, hxl⟩ := hx
        obtain ⟨xA, xl, xc, xf⟩ := x
        simp only at hxp hxl
        conv => whnf
        refine appFK_go ?_
        conv => whnf
        repeat' ((first | refine w1 (h := ?_) | refine w2 ?_ ?_ | refine w3 (h := ?_) | refine w4 (h := ?_) | refine hD _ _ ?_ | refine hL _ _ ?_ | (intro h; (try simp only [n1, n2, n3, n4, n5, n6] at h); first | (exfalso; omega) | (cases h; done) | skip)) <;> (conv => whnf))
        have T4 := tSKept (xf ++ (f2 ++ (f1 ++ fx))) D ⟨l2, [], U, U, false⟩ (by simp only; omega) (fun b hb => (hf2 b hb).mono fun f hf => List.mem_append_right _ hf) (fun b hb => by have := hs2 b hb; omega)
        refine Tri.use T4 [2] rfl (args_ren rfl rfl) ⟨OSub.ren rfl rfl, trivial⟩ (fun f hf => hf) fun y hy => ?_
        obtain ⟨hyp, hyl⟩ := hy
        obtain ⟨yA, yl, yc, yf⟩ := y
        simp only at hyp hyl
        conv => whnf
        refine appFK_go ?_
        conv => whnf
        repeat' ((first | refine w1 (h := ?_) | refine w2 ?_ ?_ | refine w3 (h := ?_) | refine w4 (h := ?_) | refine hD _ _ ?_ | refine hL _ _ ?_ | (intro h; (try simp only [n1, n2, n3, n4, n5, n6] at h); first | (exfalso; omega) | (cases h; done) | skip)) <;> (conv => whnf))
        have hxn : xl.length = l1.length := by have := congrArg List.length hxl; rwa [List.length_map, List.length_map] at this
        have T5 := tSame15 (yf ++ (xf ++ (f2 ++ (f1 ++ fx)))) xA yA xc yc xl yl (hxp.mono fun f hf => List.mem_append_right _ hf) hyp (by omega) (fun b hb => by
          have : b.bs ∈ l1.map BsV.bs := by rw [← hxl]; exact List.mem_map.2 ⟨b, hb, rfl⟩
          have := r4 _ this
          omega)
        rw [decide_eq_true (show xl.map BsV.bs = yl.map BsV.bs by rw [hxl, hyl]; exact hll)] at T5
        refine Tri.use (T5.reval (v' := .b true) (fun _ => rfl)) [] rfl (args_ren rfl rfl) trivial (fun f hf => hf) fun _ _ => ?_
        conv => whnf
        repeat' ((first | refine w1 (h := ?_) | refine w2 ?_ ?_ | refine w3 (h := ?_) | refine w4 (h := ?_) | refine hD _ _ ?_ | refine hL _ _ ?_ | (intro h; (try simp only [n1, n2, n3, n4, n5, n6] at h); first | (exfalso; omega) | (cases h; done) | skip)) <;> (conv => whnf))
        refine Tri.use (tSRoom _ D e1 (by omega) ⟨l1, [], U, U, false⟩ (by simp only; omega)) [0, 1] rfl (args_ren rfl rfl) ⟨OSub.ren rfl rfl, OSub.ren rfl rfl, trivial⟩ (fun f hf => hf) fun _ _ => ?_
        conv => whnf
        repeat' ((first | refine w1 (h := ?_) | refine w2 ?_ ?_ | refine w3 (h := ?_) | refine w4 (h := ?_) | refine hD _ _ ?_ | refine hL _ _ ?_ | (intro h; (try simp only [n1, n2, n3, n4, n5, n6] at h); first | (exfalso; omega) | (cases h; done) | skip)) <;> (conv => whnf))
        refine Tri.use (tSRoom _ D e1 (by omega) ⟨l2, [], U, U, false⟩ (by simp only; omega)) [0, 2] rfl (args_ren rfl rfl) ⟨OSub.ren rfl rfl, OSub.ren rfl rfl, trivial⟩ (fun f hf => hf) fun _ _ => ?_
        conv => whnf
        repeat' ((first | refine w1 (h := ?_) | refine w2 ?_ ?_ | refine w3 (h := ?_) | refine w4 (h := ?_) | refine hD _ _ ?_ | refine hL _ _ ?_ | (intro h; (try simp only [n1, n2, n3, n4, n5, n6] at h); first | (exfalso; omega) | (cases h; done) | skip)) <;> (conv => whnf))
        refine Tri.use (tSRoom _ D e1 (by omega) ⟨l1, [], U, U, false⟩ (by simp only; omega)) [0, 1] rfl (args_ren rfl rfl) ⟨OSub.ren rfl rfl, OSub.ren rfl rfl, trivial⟩ (fun f hf => hf) fun _ _ => ?_
        conv => whnf
        repeat' ((first | refine w1 (h := ?_) | refine w2 ?_ ?_ | refine w3 (h := ?_) | refine w4 (h := ?_) | refine hD _ _ ?_ | refine hL _ _ ?_ | (intro h; (try simp only [n1, n2, n3, n4, n5, n6] at h); first | (exfalso; omega) | (cases h; done) | skip)) <;> (conv => whnf))
        · exact Ret.mk [] [] (Fold.drop (by simp)) rfl (fun _ _ _ => by simp only [den]; rw [decide_eq_true (show (0 : Int) ≤ (e1.l.length : Int) - 3 - (U : Int) by omega)]) trivial (fun _ h => nomatch h)
        · exact absurd trivial h
end Go.Proofs.Ytekgjjanikicnaa.Sx

namespace Go.Proofs.Ytekgjjanikicnaa.Sx
open Go Go.ChangeShapes Go.WideShapes Go.ChangeAt Go.RowKit
set_option maxRecDepth 100000
set_option linter.unusedVariables false
set_option linter.unusedSimpArgs false

section
variable {H : Type} {enc : TypeId × Value → H} {W : World}
theorem three_of {α : Type} : ∀ {l : List α}, l.length = 3 → ∃ a b c, l = [a, b, c]
  | [a, b, c], _ => ⟨a, b, c, rfl⟩
theorem six_of {α : Type} : ∀ {l : List α}, l.length = 6 → ∃ a b c d e f, l = [a, b, c, d, e, f]
  | [a, b, c, d, e, f], _ => ⟨a, b, c, d, e, f, rfl⟩
/-- The cells of a fate. -/
def FateIs (fx : List Fact) (cs : List Value) : Prop := ∃ (K : Option Addr) (keep : List Bool) (cap : Nat) (torn at_ : Int), cs = [.slice K keep.length cap, .int .i64 torn, .int .i64 at_] ∧ keep.length ≤ cap ∧ cap ≤ maxLen ∧ BoolsAt fx K keep ∧
  (-9223372036854775808 ≤ torn ∧ torn ≤ 9223372036854775807) ∧ (-9223372036854775808 ≤ at_ ∧ at_ ≤ 9223372036854775807)
theorem trod_fate {base fuel : Nat} {sp : Nat → Bool} {held : Bool} {cs : List Value} {x : DataW H × List MemPlace} (h : DataW.trod enc Try.prog W base sp held fuel 47 cs = some x) : FateIs [oldFact W] cs := by
  obtain ⟨h1, h2⟩ := trod_field Try.underlying47 h
  have hc : Try.prog.cellsOf 47 = 3 := by kernel_rfl
  rw [hc] at h1
  obtain ⟨a, b, c, rfl⟩ := three_of h1
  obtain ⟨f0, y0, k0⟩ : ∃ fu y, DataW.trod enc Try.prog W base sp held fu 32 (List.take (Try.prog.cellsOf 32) (List.drop 0 [a, b, c])) = some y := h2 0 _ rfl
  obtain ⟨f1, y1, k1⟩ : ∃ fu y, DataW.trod enc Try.prog W base sp held fu 3 (List.take (Try.prog.cellsOf 3) (List.drop 1 [a, b, c])) = some y := h2 1 _ rfl
  obtain ⟨f2, y2, k2⟩ : ∃ fu y, DataW.trod enc Try.prog W base sp held fu 3 (List.take (Try.prog.cellsOf 3) (List.drop 2 [a, b, c])) = some y := h2 2 _ rfl
  have c0 : Try.prog.cellsOf 32 = 1 := by kernel_rfl
  have c1 : Try.prog.cellsOf 3 = 1 := by kernel_rfl
  have c2 : Try.prog.cellsOf 4 = 1 := by kernel_rfl
  simp only [c0, c1, List.drop_zero, List.drop_succ_cons, List.take_succ_cons, List.take_zero] at k0 k1 k2
  obtain ⟨K, keep, cap, e0, l0, m0, b0⟩ := trod_bools Try.underlying32 Try.underlying4 c2 k0
  obtain ⟨n1, e1, _, w1⟩ := DataW.trod_int Try.underlying3 k1
  obtain ⟨n2, e2, _, w2⟩ := DataW.trod_int Try.underlying3 k2
  simp only [List.cons.injEq, and_true] at e0 e1 e2
  subst e0 e1 e2
  exact ⟨K, keep, cap, n1, n2, rfl, l0, m0, b0, bounds_i64 w1, bounds_i64 w2⟩
/-- The cells of an op. -/
def OpIs (fx : List Fact) (cs : List Value) : Prop := ∃ (kind i : Int) (B : Option Addr) (bs : List UInt8) (bcap : Nat) (fs : List Value), cs = .int .i64 kind :: .int .i64 i :: .slice B bs.length bcap :: fs ∧ bs.length ≤ bcap ∧ bcap ≤ maxLen ∧ BytesAt fx B bs ∧
  (-9223372036854775808 ≤ kind ∧ kind ≤ 9223372036854775807) ∧ (-9223372036854775808 ≤ i ∧ i ≤ 9223372036854775807) ∧ FateIs fx fs
theorem trod_op {base fuel : Nat} {sp : Nat → Bool} {held : Bool} {cs : List Value} {x : DataW H × List MemPlace} (h : DataW.trod enc Try.prog W base sp held fuel 50 cs = some x) : OpIs [oldFact W] cs := by
  obtain ⟨h1, h2⟩ := trod_field Try.underlying50 h
  have hc : Try.prog.cellsOf 50 = 6 := by kernel_rfl
  rw [hc] at h1
  obtain ⟨a, b, c, d, e, f, rfl⟩ := six_of h1
  obtain ⟨f0, y0, k0⟩ : ∃ fu y, DataW.trod enc Try.prog W base sp held fu 3 (List.take (Try.prog.cellsOf 3) (List.drop 0 [a, b, c, d, e, f])) = some y := h2 0 _ rfl
  obtain ⟨f1, y1, k1⟩ : ∃ fu y, DataW.trod enc Try.prog W base sp held fu 3 (List.take (Try.prog.cellsOf 3) (List.drop 1 [a, b, c, d, e, f])) = some y := h2 1 _ rfl
  obtain ⟨f2, y2, k2⟩ : ∃ fu y, DataW.trod enc Try.prog W base sp held fu 22 (List.take (Try.prog.cellsOf 22) (List.drop 2 [a, b, c, d, e, f])) = some y := h2 2 _ rfl
  obtain ⟨f3, y3, k3⟩ : ∃ fu y, DataW.trod enc Try.prog W base sp held fu 47 (List.take (Try.prog.cellsOf 47) (List.drop 3 [a, b, c, d, e, f])) = some y := h2 3 _ rfl
  have c0 : Try.prog.cellsOf 3 = 1 := by kernel_rfl
  have c1 : Try.prog.cellsOf 22 = 1 := by kernel_rfl
  have c2 : Try.prog.cellsOf 5 = 1 := by kernel_rfl
  have c3 : Try.prog.cellsOf 47 = 3 := by kernel_rfl
  simp only [c0, c1, c3, List.drop_zero, List.drop_succ_cons, List.take_succ_cons, List.take_zero] at k0 k1 k2 k3
  obtain ⟨n0, e0, _, w0⟩ := DataW.trod_int Try.underlying3 k0
  obtain ⟨n1, e1, _, w1⟩ := DataW.trod_int Try.underlying3 k1
  obtain ⟨B, bs, cap, e2, l2, m2, b2⟩ := trod_bytes Try.underlying22 Try.underlying5 c2 k2
  simp only [List.cons.injEq, and_true] at e0 e1 e2
  subst e0 e1 e2
  exact ⟨n0, n1, B, bs, cap, _, rfl, l2, m2, b2, bounds_i64 w0, bounds_i64 w1, trod_fate k3⟩
theorem open_fate {r : Reach} {b0 : Nat} {v : Value} {d : DataW H} {ps : List MemPlace} {base : Nat} {sp : Nat → Bool} {held : Bool}
    (hval : Value.okWide Try.prog W r b0 47 v) (hd : DataW.Trod enc Try.prog W base sp held 47 v d ps) : ∃ (K : Option Addr) (keep : List Bool) (cap : Nat) (torn at_ : Int), v = .agg ⟨[.slice K keep.length cap, .int .i64 torn, .int .i64 at_]⟩ ∧ keep.length ≤ cap ∧ cap ≤ maxLen ∧ BoolsAt [oldFact W] K keep ∧
      (-9223372036854775808 ≤ torn ∧ torn ≤ 9223372036854775807) ∧ (-9223372036854775808 ≤ at_ ∧ at_ ≤ 9223372036854775807) := by
  obtain ⟨fuel, cs, rfl, h⟩ := open_agg (.inl ⟨_, Try.underlying47⟩) hval hd
  obtain ⟨K, keep, cap, torn, at_, rfl, h1⟩ := trod_fate h
  exact ⟨K, keep, cap, torn, at_, rfl, h1⟩
theorem open_ops {r : Reach} {b0 : Nat} {v : Value} {d : DataW H} {ps : List MemPlace} {base : Nat} {sp : Nat → Bool} {held : Bool}
    (hval : Value.okWide Try.prog W r b0 44 v) (hd : DataW.Trod enc Try.prog W base sp held 44 v d ps) : ∃ (A : Option Addr) (len cap : Nat), v = .slice A len cap ∧ len ≤ cap ∧ cap ≤ maxLen ∧ ElemsAt [oldFact W] A len 6 (fun _ => OpIs [oldFact W]) := by
  obtain ⟨fuel, a, len, cap, rfl, h⟩ := open_slice Try.underlying44 hval hd
  obtain ⟨A, l, c, e, h1, h2, h3⟩ := trod_elems Try.underlying44 (by kernel_rfl : Try.prog.cellsOf 50 = 6) h (fun _ _ _ => trod_op)
  simp only [List.cons.injEq, and_true, Value.slice.injEq] at e
  obtain ⟨e1, e2, e3⟩ := e
  exact ⟨A, l, c, by rw [e1, e2, e3], h1, h2, h3⟩
end
end Go.Proofs.Ytekgjjanikicnaa.Sx

namespace Go.Proofs.Ytekgjjanikicnaa.Sx
open Go Go.ChangeShapes Go.WideShapes Go.ChangeAt Go.RowKit
set_option maxRecDepth 100000
set_option linter.unusedVariables false
set_option linter.unusedSimpArgs false

structure FateV where
  K : Option Addr
  keep : List Bool
  kcap : Nat
  torn : Int
  at_ : Int
structure OpV where
  kind : Int
  i : Int
  B : Option Addr
  bs : List UInt8
  bcap : Nat
  f : FateV
def FateV.cells (o : FateV) : List Value := [.slice o.K o.keep.length o.kcap, .int .i64 o.torn, .int .i64 o.at_]
def OpV.cells (o : OpV) : List Value := .int .i64 o.kind :: .int .i64 o.i :: .slice o.B o.bs.length o.bcap :: o.f.cells
structure FateV.Ok (fx : List Fact) (o : FateV) : Prop where
  kl : o.keep.length ≤ o.kcap ∧ o.kcap ≤ maxLen
  bk : BoolsAt fx o.K o.keep
  torn : -9223372036854775808 ≤ o.torn ∧ o.torn ≤ 9223372036854775807
  at_ : -9223372036854775808 ≤ o.at_ ∧ o.at_ ≤ 9223372036854775807
structure OpV.Ok (fx : List Fact) (o : OpV) : Prop where
  kind : -9223372036854775808 ≤ o.kind ∧ o.kind ≤ 9223372036854775807
  i : -9223372036854775808 ≤ o.i ∧ o.i ≤ 9223372036854775807
  bl : o.bs.length ≤ o.bcap ∧ o.bcap ≤ maxLen
  bb : BytesAt fx o.B o.bs
  f : o.f.Ok fx
theorem FateIs.v {fx : List Fact} {cs : List Value} (h : FateIs fx cs) : ∃ o : FateV, cs = o.cells ∧ o.Ok fx := by
  obtain ⟨K, keep, cap, torn, at_, rfl, h1, h2, h3, h4, h5⟩ := h
  exact ⟨⟨K, keep, cap, torn, at_⟩, rfl, ⟨h1, h2⟩, h3, h4, h5⟩
theorem OpIs.v {fx : List Fact} {cs : List Value} (h : OpIs fx cs) : ∃ o : OpV, cs = o.cells ∧ o.Ok fx := by
  obtain ⟨kind, i, B, bs, cap, fs, rfl, h1, h2, h3, h4, h5, h6⟩ := h
  obtain ⟨f, rfl, h7⟩ := h6.v
  exact ⟨⟨kind, i, B, bs, cap, f⟩, rfl, h4, h5, ⟨h1, h2⟩, h3, h7⟩
/-- A script. -/
def OpsAt (fx : List Fact) (A : Option Addr) (ops : List OpV) : Prop := (A = none → ops = []) ∧ ∀ ad, A = some ad → ∀ i o, ops[i]? = some o → o.Ok fx ∧ ∀ j v, o.cells[j]? = some v → FC fx ((ad.add (i * 6)).add j) v
theorem elems_ops {fx : List Fact} {A : Option Addr} {len : Nat} (h : ElemsAt fx A len 6 (fun _ => OpIs fx)) : ∃ ops : List OpV, ops.length = len ∧ OpsAt fx A ops := by
  cases A with
  | none => exact ⟨[], (h.1 rfl).symm, fun _ => rfl, fun ad e => by cases e⟩
  | some ad =>
    obtain ⟨ops, h1, h2⟩ := choose_list (p := fun i (o : OpV) => o.Ok fx ∧ ∀ j v, o.cells[j]? = some v → FC fx ((ad.add (i * 6)).add j) v) len fun i hi => by
      obtain ⟨es, _, hop, h3⟩ := h.2 ad rfl i hi
      obtain ⟨o, rfl, h4⟩ := hop.v
      exact ⟨o, h4, fun j v hj => by rw [Addr.add_add]; exact h3 j v hj⟩
    exact ⟨ops, h1, fun e => (by cases e), fun ad' e i o hi => by obtain rfl := Option.some.inj e; exact h2 i o hi⟩
section
variable {H : Type} {enc : TypeId × Value → H} {W : World}
theorem open_opv {r : Reach} {b0 : Nat} {v : Value} {d : DataW H} {ps : List MemPlace} {base : Nat} {sp : Nat → Bool} {held : Bool}
    (hval : Value.okWide Try.prog W r b0 44 v) (hd : DataW.Trod enc Try.prog W base sp held 44 v d ps) : ∃ (A : Option Addr) (ops : List OpV) (cap : Nat), v = .slice A ops.length cap ∧ ops.length ≤ cap ∧ cap ≤ maxLen ∧ OpsAt [oldFact W] A ops := by
  obtain ⟨A, len, cap, rfl, h1, h2, h3⟩ := open_ops hval hd
  obtain ⟨ops, rfl, h4⟩ := elems_ops h3
  exact ⟨A, ops, cap, rfl, h1, h2, h4⟩
theorem open_fatev {r : Reach} {b0 : Nat} {v : Value} {d : DataW H} {ps : List MemPlace} {base : Nat} {sp : Nat → Bool} {held : Bool}
    (hval : Value.okWide Try.prog W r b0 47 v) (hd : DataW.Trod enc Try.prog W base sp held 47 v d ps) : ∃ o : FateV, v = .agg ⟨o.cells⟩ ∧ o.Ok [oldFact W] := by
  obtain ⟨fuel, cs, rfl, h⟩ := open_agg (.inl ⟨_, Try.underlying47⟩) hval hd
  obtain ⟨o, rfl, h1⟩ := (trod_fate h).v
  exact ⟨o, rfl, h1⟩
theorem trod_ops {base fuel : Nat} {sp : Nat → Bool} {held : Bool} {cs : List Value} {x : DataW H × List MemPlace} (h : DataW.trod enc Try.prog W base sp held fuel 44 cs = some x) : ∃ (A : Option Addr) (ops : List OpV) (cap : Nat), cs = [.slice A ops.length cap] ∧ ops.length ≤ cap ∧ cap ≤ maxLen ∧ OpsAt [oldFact W] A ops := by
  obtain ⟨A, l, c, rfl, h1, h2, h3⟩ := trod_elems Try.underlying44 (by kernel_rfl : Try.prog.cellsOf 50 = 6) h (fun _ _ _ => trod_op)
  obtain ⟨ops, rfl, h4⟩ := elems_ops h3
  exact ⟨A, ops, c, rfl, h1, h2, h4⟩
theorem open_story {T : Nat} (hT : T = 45 ∨ T = 46) {r : Reach} {b0 : Nat} {v : Value} {d : DataW H} {ps : List MemPlace} {base : Nat} {sp : Nat → Bool} {held : Bool}
    (hval : Value.okWide Try.prog W r b0 T v) (hd : DataW.Trod enc Try.prog W base sp held T v d ps) : ∃ (n at_ : Int) (A : Option Addr) (ops : List OpV) (cap : Nat), v = .agg ⟨[.int .u8 n, .int .i64 at_, .slice A ops.length cap]⟩ ∧ (0 ≤ n ∧ n ≤ 255) ∧ (-9223372036854775808 ≤ at_ ∧ at_ ≤ 9223372036854775807) ∧ ops.length ≤ cap ∧ cap ≤ maxLen ∧ OpsAt [oldFact W] A ops := by
  have hu : Try.prog.underlying T = some (.struct #[{ name := "N", type := 5, offset := 0, embedded := false, tag := "", pkgPath := "", byteOffset := 0 }, { name := "At", type := 3, offset := 1, embedded := false, tag := "", pkgPath := "", byteOffset := 8 }, { name := "Script", type := 44, offset := 2, embedded := false, tag := "", pkgPath := "", byteOffset := 16 }]) := by
    rcases hT with rfl | rfl
    · exact Try.underlying45
    · exact Try.underlying46
  have hc : Try.prog.cellsOf T = 3 := by rcases hT with rfl | rfl <;> kernel_rfl
  obtain ⟨fuel, cs, rfl, h⟩ := open_agg (.inl ⟨_, hu⟩) hval hd
  obtain ⟨h1, h2⟩ := trod_field hu h
  rw [hc] at h1
  obtain ⟨a, b, c, rfl⟩ := three_of h1
  obtain ⟨f0, y0, k0⟩ : ∃ fu y, DataW.trod enc Try.prog W base sp held fu 5 (List.take (Try.prog.cellsOf 5) (List.drop 0 [a, b, c])) = some y := h2 0 _ rfl
  obtain ⟨f1, y1, k1⟩ : ∃ fu y, DataW.trod enc Try.prog W base sp held fu 3 (List.take (Try.prog.cellsOf 3) (List.drop 1 [a, b, c])) = some y := h2 1 _ rfl
  obtain ⟨f2, y2, k2⟩ : ∃ fu y, DataW.trod enc Try.prog W base sp held fu 44 (List.take (Try.prog.cellsOf 44) (List.drop 2 [a, b, c])) = some y := h2 2 _ rfl
  have c0 : Try.prog.cellsOf 5 = 1 := by kernel_rfl
  have c1 : Try.prog.cellsOf 3 = 1 := by kernel_rfl
  have c2 : Try.prog.cellsOf 44 = 1 := by kernel_rfl
  simp only [c0, c1, c2, List.drop_zero, List.drop_succ_cons, List.take_succ_cons, List.take_zero] at k0 k1 k2
  obtain ⟨n0, e0, _, w0⟩ := DataW.trod_int Try.underlying5 k0
  obtain ⟨n1, e1, _, w1⟩ := DataW.trod_int Try.underlying3 k1
  obtain ⟨A, ops, cap, e2, h3, h4, h5⟩ := trod_ops k2
  simp only [List.cons.injEq, and_true] at e0 e1 e2
  subst e0 e1 e2
  exact ⟨n0, n1, A, ops, cap, rfl, bounds_u8 w0, bounds_i64 w1, h3, h4, h5⟩
end
end Go.Proofs.Ytekgjjanikicnaa.Sx

namespace Go.Proofs.Ytekgjjanikicnaa.Sx
open Go Go.ChangeShapes Go.WideShapes Go.ChangeAt Go.RowKit
set_option maxRecDepth 100000
set_option linter.unusedVariables false
set_option linter.unusedSimpArgs false

def FatesAt (fx : List Fact) (A : Option Addr) (l : List FateV) : Prop := (A = none → l = []) ∧ ∀ ad, A = some ad → ∀ i o, l[i]? = some o → o.Ok fx ∧ ∀ j v, o.cells[j]? = some v → FC fx ((ad.add (i * 3)).add j) v
theorem FatesAt.get {fx : List Fact} {A : Option Addr} {l : List FateV} (h : FatesAt fx A l) {i : Nat} (hi : i < l.length) : ∃ ad, A = some ad ∧ l[i].Ok fx ∧ ∀ j v, l[i].cells[j]? = some v → FC fx ((ad.add (i * 3)).add j) v := by
  cases A with
  | none => rw [h.1 rfl] at hi; simp at hi
  | some ad => exact ⟨ad, rfl, h.2 ad rfl i _ (List.getElem?_eq_getElem hi)⟩
theorem FateV.Ok.mono {fx fx' : List Fact} {o : FateV} (h : o.Ok fx) (hf : ∀ f, f ∈ fx → f ∈ fx') : o.Ok fx' :=
  ⟨h.kl, ⟨h.bk.1, fun ad e j y hj => (h.bk.2 ad e j y hj).mono hf⟩, h.torn, h.at_⟩
section
variable {H : Type} {enc : TypeId × Value → H} {W : World}
theorem open_bss {r : Reach} {b0 : Nat} {v : Value} {d : DataW H} {ps : List MemPlace} {base : Nat} {sp : Nat → Bool} {held : Bool}
    (hval : Value.okWide Try.prog W r b0 52 v) (hd : DataW.Trod enc Try.prog W base sp held 52 v d ps) : ∃ (A : Option Addr) (l : List BsV) (cap : Nat), v = .slice A l.length cap ∧ l.length ≤ cap ∧ cap ≤ maxLen ∧ BssAt [oldFact W] A l := by
  obtain ⟨fuel, a, len, cap, rfl, h⟩ := open_slice Try.underlying52 hval hd
  have hc5 : Try.prog.cellsOf 5 = 1 := by kernel_rfl
  obtain ⟨A, l, c, e, h1, h2, h3⟩ := trod_elems Try.underlying52 (by kernel_rfl : Try.prog.cellsOf 22 = 1) (Q := fun es => ∃ o : BsV, es = [Value.slice o.B o.bs.length o.cap] ∧ o.Ok [oldFact W]) h (fun _ _ _ h => by
    obtain ⟨B, bs, bc, e2, l2, m2, b2⟩ := trod_bytes Try.underlying22 Try.underlying5 hc5 h
    exact ⟨⟨B, bs, bc⟩, e2, ⟨l2, m2⟩, b2⟩)
  simp only [List.cons.injEq, and_true, Value.slice.injEq] at e
  obtain ⟨e1, e2, e3⟩ := e
  subst e1 e2 e3
  cases a with
  | none => obtain rfl := h3.1 rfl; exact ⟨none, [], cap, rfl, h1, h2, fun _ => rfl, fun ad e => by cases e⟩
  | some ad =>
    obtain ⟨ops, g1, g2⟩ := choose_list (p := fun i (o : BsV) => o.Ok [oldFact W] ∧ FC [oldFact W] (ad.add (i * 1)) (.slice o.B o.bs.length o.cap)) len fun i hi => by
      obtain ⟨es, _, ⟨o, rfl, ho⟩, h4⟩ := h3.2 ad rfl i hi
      exact ⟨o, ho, h4 0 _ rfl⟩
    subst g1
    exact ⟨some ad, ops, cap, rfl, h1, h2, fun e => (by cases e), fun ad' e i o hi => by obtain rfl := Option.some.inj e; exact g2 i o hi⟩
theorem open_fates {r : Reach} {b0 : Nat} {v : Value} {d : DataW H} {ps : List MemPlace} {base : Nat} {sp : Nat → Bool} {held : Bool}
    (hval : Value.okWide Try.prog W r b0 71 v) (hd : DataW.Trod enc Try.prog W base sp held 71 v d ps) : ∃ (A : Option Addr) (l : List FateV) (cap : Nat), v = .slice A l.length cap ∧ l.length ≤ cap ∧ cap ≤ maxLen ∧ FatesAt [oldFact W] A l := by
  obtain ⟨fuel, a, len, cap, rfl, h⟩ := open_slice Try.underlying71 hval hd
  obtain ⟨A, l, c, e, h1, h2, h3⟩ := trod_elems Try.underlying71 (by kernel_rfl : Try.prog.cellsOf 47 = 3) h (fun _ _ _ => trod_fate)
  simp only [List.cons.injEq, and_true, Value.slice.injEq] at e
  obtain ⟨e1, e2, e3⟩ := e
  subst e1 e2 e3
  cases a with
  | none => obtain rfl := h3.1 rfl; exact ⟨none, [], cap, rfl, h1, h2, fun _ => rfl, fun ad e => by cases e⟩
  | some ad =>
    obtain ⟨ops, g1, g2⟩ := choose_list (p := fun i (o : FateV) => o.Ok [oldFact W] ∧ ∀ j v, o.cells[j]? = some v → FC [oldFact W] ((ad.add (i * 3)).add j) v) len fun i hi => by
      obtain ⟨es, _, hop, h4⟩ := h3.2 ad rfl i hi
      obtain ⟨o, rfl, h5⟩ := hop.v
      exact ⟨o, h5, fun j v hj => by rw [Addr.add_add]; exact h4 j v hj⟩
    subst g1
    exact ⟨some ad, ops, cap, rfl, h1, h2, fun e => (by cases e), fun ad' e i o hi => by obtain rfl := Option.some.inj e; exact g2 i o hi⟩
theorem two_of {α : Type} : ∀ {l : List α}, l.length = 2 → ∃ a b, l = [a, b]
  | [a, b], _ => ⟨a, b, rfl⟩
theorem open_two {r : Reach} {b0 : Nat} {v : Value} {d : DataW H} {ps : List MemPlace} {base : Nat} {sp : Nat → Bool} {held : Bool}
    (hval : Value.okWide Try.prog W r b0 65 v) (hd : DataW.Trod enc Try.prog W base sp held 65 v d ps) : ∃ x y : BsV, v = .agg ⟨[.slice x.B x.bs.length x.cap, .slice y.B y.bs.length y.cap]⟩ ∧ x.Ok [oldFact W] ∧ y.Ok [oldFact W] := by
  obtain ⟨fuel, cs, rfl, h⟩ := open_agg (.inr ⟨_, _, Try.underlying65⟩) hval hd
  obtain ⟨h1, h2⟩ := trod_part Try.underlying65 h
  have hc : Try.prog.cellsOf 65 = 2 := by kernel_rfl
  have c22 : Try.prog.cellsOf 22 = 1 := by kernel_rfl
  have c5 : Try.prog.cellsOf 5 = 1 := by kernel_rfl
  rw [hc] at h1
  obtain ⟨a, b, rfl⟩ := two_of h1
  obtain ⟨f0, y0, k0⟩ := h2 0 (by decide)
  obtain ⟨f1, y1, k1⟩ := h2 1 (by decide)
  simp only [c22, Nat.zero_mul, Nat.one_mul, List.drop_zero, List.drop_succ_cons, List.take_succ_cons, List.take_zero] at k0 k1
  obtain ⟨A, xs, ac, e0, l0, m0, g0⟩ := trod_bytes Try.underlying22 Try.underlying5 c5 k0
  obtain ⟨B, bs, bc, e1, l1, m1, g1⟩ := trod_bytes Try.underlying22 Try.underlying5 c5 k1
  simp only [List.cons.injEq, and_true] at e0 e1
  subst e0 e1
  exact ⟨⟨A, xs, ac⟩, ⟨B, bs, bc⟩, rfl, ⟨⟨l0, m0⟩, g0⟩, ⟨⟨l1, m1⟩, g1⟩⟩
end
end Go.Proofs.Ytekgjjanikicnaa.Sx
