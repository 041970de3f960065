/- Contracts of the library, off the shelf, as the layer has them. -/
import Derived.Test.YtohlpijmiokkjaaDoorAcE
import Derived.Test.YtohlpijmiokkjaaDoorDat
import Derived.Test.YtohlpijmiokkjaaDoorShf
import Derived.Lib.AppendIntMem
import Derived.Lib.ItoaLen
namespace Go.Proofs.YtohlpijmiokkjaaDoor
open Go Go.Ab
open Go.RowKit (Below)

theorem vs1 {vs : Array Value} {x : Value} {xs : List Value} (h : vs.toList = x :: xs) (hx : xs = []) : vs = #[x] := by
  rw [← Array.toArray_toList (xs := vs), h, hx]
theorem vs2 {vs : Array Value} {x y : Value} {xs ys : List Value} (h : vs.toList = x :: xs) (hx : xs = y :: ys) (hy : ys = []) : vs = #[x, y] := by
  rw [← Array.toArray_toList (xs := vs), h, hx, hy]
theorem vs3 {vs : Array Value} {x y z : Value} {xs ys zs : List Value} (h : vs.toList = x :: xs) (hx : xs = y :: ys) (hy : ys = z :: zs) (hz : zs = []) : vs = #[x, y, z] := by
  rw [← Array.toArray_toList (xs := vs), h, hx, hy, hz]
theorem ba_list (l : List UInt8) : (ByteArray.mk l.toArray).data.toList = l := by simp
theorem ba_size (l : List UInt8) : (ByteArray.mk l.toArray).size = l.length := by simp [ByteArray.size]

def atoiL (l : List UInt8) : Option (Int × Bool) :=
  guardO (l.length ≤ 2 ^ 48) (match Lib.atoiAll l with | .ok v => (v, false) | .range => (Lib.atoiSat l, true) | _ => (0, true))

theorem W_atoi (l : List UInt8) (r : Int × Bool) (h : atoiL l = some r) : PFun Tryd.prog 31 [.str l] (.tup [pint r.1, pErr r.2]) := by
  obtain ⟨hl, hr⟩ := guardO_some h
  refine PFun.ofCalls fun w M vs hg ha hm => ?_
  simp only [RepAll, Rep] at ha
  obtain ⟨x, xs, hv, ⟨rfl, _⟩, hxs⟩ := ha
  obtain rfl := vs1 hv hxs
  cases he : Lib.atoiAll l with
  | ok v =>
    rw [he] at hr
    subst hr
    refine (Tryd.strconv_Atoi_ok ⟨l.toArray⟩ (by rw [ba_size]; omega) v (by rw [ba_list]; exact he) w).mono ?_
    rintro e w' ⟨rfl, hw⟩
    refine ⟨_, rfl, ?_, ?_⟩
    · rcases hw with rfl | ⟨t, rfl⟩
      · exact Below.refl _ _
      · exact Lib.bytesWorld_below _ _ _
    · simp only [Rep, RepAll]
      exact ⟨_, rfl, _, _, rfl, rfl, _, _, rfl, .inl ⟨trivial, rfl⟩, rfl⟩
  | range =>
    rw [he] at hr
    subst hr
    obtain ⟨tp, p, hc⟩ := hg.1 5 (by simp [glI])
    refine (Tryd.strconv_Atoi_range ⟨l.toArray⟩ (by rw [ba_size]; omega) (by rw [ba_list]; exact he) _ w hc (.inr ⟨tp, p, rfl⟩)).mono ?_
    rintro e w' ⟨N, rfl, _, _, hb⟩
    refine ⟨_, rfl, hb, ?_⟩
    rw [ba_list]
    simp only [Rep, RepAll]
    exact ⟨_, rfl, _, _, rfl, rfl, _, _, rfl, .inr ⟨trivial, _, _, rfl⟩, rfl⟩
  | _ =>
    rw [he] at hr
    subst hr
    obtain ⟨tp, p, hc⟩ := hg.1 4 (by simp [glI])
    refine (Tryd.strconv_Atoi_syntax ⟨l.toArray⟩ (by rw [ba_size]; omega) (by rw [ba_list]; exact he) _ w hc (.inr ⟨tp, p, rfl⟩)).mono ?_
    rintro e w' ⟨N, rfl, _, _, hb⟩
    refine ⟨_, rfl, hb, ?_⟩
    simp only [Rep, RepAll]
    exact ⟨_, rfl, _, _, rfl, rfl, _, _, rfl, .inr ⟨trivial, _, _, rfl⟩, rfl⟩

theorem itoa_len (n : Int) (h0 : -9223372036854775808 ≤ n) (h1 : n ≤ 9223372036854775807) : (Lib.itoa n).length ≤ 21 := Lib.itoa_length_le n h0 h1

def itoaL (n : Int) : Option (List UInt8) := guardO (-9223372036854775808 ≤ n ∧ n ≤ 9223372036854775807) (Lib.itoa n)
set_option maxRecDepth 20000 in
theorem g_pow : Tryd.prog.globalNamed "internal/strconv.uint64pow10" = some 3 := by kernel_rfl
theorem W_itoa (n : Int) (r : List UInt8) (h : itoaL n = some r) : PFun Tryd.prog 14 [pint n] (.str r) := by
  obtain ⟨⟨h0, h1⟩, rfl⟩ := guardO_some h
  refine PFun.ofCalls fun w M vs hg ha hm => ?_
  simp only [RepAll, Rep] at ha
  obtain ⟨x, xs, hv, rfl, hxs⟩ := ha
  obtain rfl := vs1 hv hxs
  have htab : Lib.TabIs Tryd.prog w "internal/strconv.uint64pow10" .u64 Lib.pow10Tab := by
    obtain ⟨t, fz, hc⟩ := hg.2.1 _ (List.mem_singleton.2 rfl)
    simp only [Lib.TabIs, World.var?, g_pow, Option.bind_some, hc]
    rfl
  refine (Tryd.strconv_Itoa n h0 h1 w htab).mono ?_
  rintro e w' ⟨rfl, k, os, rfl⟩
  refine ⟨_, rfl, Lib.below_grow _ w (Nat.le_refl _) k os, ?_⟩
  simp only [Rep]
  exact ⟨trivial, Nat.le_trans (itoa_len n h0 h1) (by decide)⟩

def idxByteL (l : List UInt8) (c : UInt8) : Option Int := some (Lib.indexByte l c)
theorem W_idxByte (l : List UInt8) (c : UInt8) (r : Int) (h : idxByteL l c = some r) : PFun Tryd.prog 32 [.str l, .val (.int .u8 (c.toNat : Int))] (pint r) := by
  simp only [idxByteL, Option.some.injEq] at h
  subst h
  refine PFun.ofCalls fun w M vs hg ha hm => ?_
  simp only [RepAll, Rep] at ha
  obtain ⟨x, xs, hv, ⟨rfl, _⟩, y, ys, hxs, rfl, hys⟩ := ha
  obtain rfl := vs2 hv hxs hys
  refine (Tryd.strings_IndexByte ⟨l.toArray⟩ (c.toNat : Int) w).mono ?_
  rintro e w' ⟨rfl, rfl⟩
  refine ⟨_, rfl, Below.refl _ _, ?_⟩
  simp [Rep]

def hasPrefixL (l p : List UInt8) : Option Bool := some (p.isPrefixOf l)
theorem W_hasPrefix (l p : List UInt8) (r : Bool) (h : hasPrefixL l p = some r) : PFun Tryd.prog 25 [.str l, .str p] (pbool r) := by
  simp only [hasPrefixL, Option.some.injEq] at h
  subst h
  refine PFun.ofCalls fun w M vs hg ha hm => ?_
  simp only [RepAll, Rep] at ha
  obtain ⟨x, xs, hv, ⟨rfl, _⟩, y, ys, hxs, ⟨rfl, _⟩, hys⟩ := ha
  obtain rfl := vs2 hv hxs hys
  refine (Tryd.strings_HasPrefix ⟨l.toArray⟩ ⟨p.toArray⟩ w).mono ?_
  rintro e w' ⟨rfl, rfl⟩
  refine ⟨_, rfl, Below.refl _ _, ?_⟩
  simp [Rep, Lib.hasPrefix]

def replL (s old new : List UInt8) : Option (List UInt8) :=
  guardO (s.length < 4294967281 ∧ 1 ≤ old.length ∧ s.length + Lib.countB ⟨s.toArray⟩ ⟨old.toArray⟩ * new.length ≤ 140737488355328 ∧ (Lib.replaceAll s old new).length ≤ maxStr) (Lib.replaceAll s old new)
theorem W_repl (s old new : List UInt8) (r : List UInt8) (h : replL s old new = some r) : PFun Tryd.prog 13 [.str s, .str old, .str new] (.str r) := by
  obtain ⟨⟨h0, h1, h2, h3⟩, rfl⟩ := guardO_some h
  refine PFun.ofCalls fun w M vs hg ha hm => ?_
  simp only [RepAll, Rep] at ha
  obtain ⟨x, xs, hv, ⟨rfl, _⟩, y, ys, hxs, ⟨rfl, _⟩, z, zs, hys, ⟨rfl, _⟩, hzs⟩ := ha
  obtain rfl := vs3 hv hxs hys hzs
  obtain ⟨m, hc⟩ := hg.2.2 0 (by simp [glN])
  refine (Tryd.strings_ReplaceAll ⟨s.toArray⟩ ⟨old.toArray⟩ ⟨new.toArray⟩ m w (by rw [ba_size]; exact h0) hc (by rw [ba_size]; exact h1) (by rw [ba_size, ba_size]; exact h2)).mono ?_
  rintro e w' ⟨rfl, hb⟩
  refine ⟨_, rfl, hb, ?_⟩
  simp only [Rep]
  exact ⟨trivial, h3⟩

def joinL (xs : List (List UInt8)) (sep : List UInt8) : Option (List UInt8) :=
  guardO (xs.length ≤ 140737488355328 ∧ (Lib.join xs sep).length ≤ 140737488355328) (Lib.join xs sep)
theorem W_join (xs : List (List UInt8)) (sep : List UInt8) (r : List UInt8) (h : joinL xs sep = some r) : PFun Tryd.prog 10 [.list 9 (xs.map rStr), .str sep] (.str r) := by
  obtain ⟨⟨h0, h1⟩, rfl⟩ := guardO_some h
  refine PFun.ofCalls fun w M vs hg ha hm => ?_
  simp only [RepAll, Rep] at ha
  obtain ⟨x, ys, hv, ⟨a, c, i, rfl, hcap, hmx, hinf, _, hrows⟩, y, zs, hxs, ⟨rfl, _⟩, hys⟩ := ha
  obtain rfl := vs2 hv hxs hys
  have h2 : (Lib.join xs sep).length ≤ maxStr := Nat.le_trans h1 (by decide)
  rw [List.length_map] at hcap ⊢
  by_cases hn : xs = []
  · subst hn
    refine (Tryd.strings_Join_none a c ⟨sep.toArray⟩ w).mono ?_
    rintro e w' ⟨rfl, rfl⟩
    refine ⟨_, rfl, Below.refl _ _, ?_⟩
    simp only [Rep]
    exact ⟨rfl, h2⟩
  · obtain ⟨b, o, rfl, hat⟩ := hrows (by simpa using hn)
    have hsz : i.size = 1 := by
      have := (tt_ok.get (t := 9) rfl).info
      obtain ⟨i', h3, h4, _⟩ := this
      rw [hinf] at h3
      cases h3
      exact h4
    rw [hsz] at hat
    have hcell : ∀ (j : Nat) z, xs[j]? = some z → w.cell? ⟨b, o + j, none⟩ = some (.string ⟨z.toArray⟩) := by
      intro j z hz
      obtain ⟨_, h5⟩ := hat.get j [.str z] (by rw [List.getElem?_map, hz]; rfl)
      simp only [RepAt, Rep] at h5
      obtain ⟨⟨v, h6, _, h7, _⟩, _⟩ := h5
      rw [Nat.mul_one, h7] at h6
      exact hm _ _ _ h6
    have hb : b < w.heap.size := by
      cases xs with
      | nil => exact absurd rfl hn
      | cons z zs => exact Lib.lt_of_cell (hcell 0 z rfl)
    have hl : (xs.map fun z => ByteArray.mk z.toArray).map (·.data.toList) = xs := by
      rw [List.map_map]
      exact (List.map_congr_left fun z _ => by simp).trans (List.map_id xs)
    have hj := Tryd.strings_Join b o c (xs.map fun z => ByteArray.mk z.toArray) ⟨sep.toArray⟩ w (fun j x hx => by
      rw [List.getElem?_map] at hx
      cases hz : xs[j]? with
      | none => rw [hz] at hx; cases hx
      | some z => rw [hz] at hx; cases hx; exact hcell j z hz) hb (by rw [List.length_map]; exact h0) (by rw [List.length_map]; exact hcap) (by rw [hl, ba_list]; exact h1)
    rw [hl, ba_list, List.length_map] at hj
    refine hj.mono ?_
    rintro e w' ⟨rfl, hb'⟩
    refine ⟨_, rfl, hb', ?_⟩
    simp only [Rep]
    exact ⟨trivial, h2⟩
end Go.Proofs.YtohlpijmiokkjaaDoor
