/- The abstract layer, part O: bytes to a string. -/
import Derived.Test.YtohlpijmiokkjaaDoorAbN
import Derived.Laws.BytesArg
namespace Go.Ab

section
variable {P : Program} {ops : Array Oper} {rest : List Oper} {o : Oper} {n : Nat} {s s' : Nat → PV} {bx : Nat → Option Box} {ob : Nat → Option Obj} {K : PState → Prop} {T : TT}

abbrev byteRows (xs : List UInt8) : List (List PV) := xs.map fun c => [.val (.int .u8 c.toNat)]

theorem AOps.b2s (hT : T.Ok P) (hg : guardA ops s o = some true) {src dst e : TypeId} {x : Operand} (ho : o.op = .convert src dst x) {si di ei : TInfo} (hsi : T.get src = some si) (hsd : si.desc = .slice e) (hei : T.get e = some ei) (hed : ei.desc = .int .u8)
    (hdi : T.get dst = some di) (hdd : di.desc = .string) {xs : List UInt8} (hx : evS s x = .list e (byteRows xs)) (hl : xs.length ≤ maxStr) (hp : putD n s o.dst (.str xs) = some s') (h : AOps P ops rest ⟨n, s', bx, ob⟩ K) : AOps P ops (o :: rest) ⟨n, s, bx, ob⟩ K := by
  refine AOps.eff hg ((Eff.of_det (r := .str xs) ?_).mono fun u H' ⟨hu, hH⟩ => by subst hu; subst hH; exact ⟨s', hp, h⟩)
  intro C M a w hi hops
  obtain ⟨op, oargs⟩ := o
  simp only at ho
  subst ho
  have hrx := hops x (by simp [Op.operands])
  rw [show (⟨n, s, bx, ob⟩ : PState).s = s from rfl] at hrx
  rw [hx] at hrx
  have hs := (hT.get hsi).und
  have he := (hT.get hei).und
  have hd := (hT.get hdi).und
  rw [hsd] at hs
  rw [hed] at he
  rw [hdd] at hd
  simp only [Rep] at hrx
  obtain ⟨ad, c, i, hv, hlc, hcm, hinf, hby, hrows⟩ := hrx
  refine ⟨.string ⟨xs.toArray⟩, M, w, ?_, Mem.le_refl M, hi, by simp only [Rep]; exact ⟨trivial, hl⟩⟩
  have key : (convert src dst (a.eval x)).run P w = .ok (.string ⟨xs.toArray⟩) w := by
    rw [hv]
    by_cases hne : xs = []
    · subst hne
      rw [run_convert_bytes_string w src dst e _ _ c hs he (by rw [hd])]
      cases ad with
      | none => simp [Conv.bytesToString]; rfl
      | some q => 
        rw [run_bytesToString w q _ c [] (by simp [loadCells, loadCellsFrom])]
        rfl
    · obtain ⟨b, off, rfl, hr⟩ := hrows (by simpa using hne)
      obtain ⟨i', hi1, hi2, _⟩ := (hT.get hei).info
      rw [hinf] at hi1
      cases hi1
      rw [run_convert_bytes_arg w src e hs he b off _ c (xs.map fun c => (c.toNat : Int)) (by simp) (fun j hj => ?_) dst (by rw [hd])]
      · simp [strOfNums, Function.comp_def]
      · have hj' : j < xs.length := by simpa using hj
        obtain ⟨h1, h2⟩ := hr.get j [.val (.int .u8 xs[j].toNat)] (by simp [hj'])
        obtain ⟨y, h3, _, h4⟩ := h2.get 0 _ rfl
        simp only [Rep] at h4
        have h5 := hi.mem _ _ _ h3
        rw [h4] at h5
        have hsz : i.size = 1 := by simpa using h1.symm
        rw [hsz] at h5
        simpa [hj'] using h5
  simp [execOp, key]
end
end Go.Ab
