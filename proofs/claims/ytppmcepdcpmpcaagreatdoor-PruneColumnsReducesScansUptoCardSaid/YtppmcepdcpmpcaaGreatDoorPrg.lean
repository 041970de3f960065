/- pruneColumnsReducesScansUpto_holds, part 7: the layer, the plain functions and what they compute; conditions as in the statement. -/
import Derived.Test.YtppmcepdcpmpcaaGreatDoorPrf
set_option maxHeartbeats 4000000
namespace Go.Proofs.YtppmcepdcpmpcaaGreatDoor
noncomputable section
open Go Go.Ab
theorem own_knob : ownKnob Tryz.prog.godebug = none := by kernel_rfl
theorem laid_out : laidOutB Tryz.prog = true := by kernel_rfl
def lawTypes : List TypeId := [26,22,71,9,60,68,3,4,44,23,135,24,141,73,33,27,28,91,29,88,30,31]
theorem lawTypes_ok : lawTypes.all (okT Tryz.prog lawTypes) = true := by kernel_rfl
theorem lawTypes_info : ∀ t ∈ lawTypes,∃ i,Tryz.prog.info? t = some i ∧ i.bytes = Tryz.prog.bytesOf t ∧ i.size = Tryz.prog.cellsOf t := infos_of (by kernel_rfl)
theorem sh9 {n : Nat} {pvs : List PV} (h : Sh Tryz.prog n 9 pvs) : ∃ v : List UInt8,pvs = [.str v] := by
 cases n with
 | zero=>simp [Sh] at h
 | succ n=>simp only [Sh,Tryz.underlying9] at h; obtain ⟨m,rfl,_⟩ := h; exact ⟨m,rfl⟩
theorem sh3 {n : Nat} {pvs : List PV} (h : Sh Tryz.prog n 3 pvs) : ∃ v : Int,pvs = [af v] := by
 cases n with
 | zero=>simp [Sh] at h
 | succ n=>simp only [Sh,Tryz.underlying3] at h; obtain ⟨m,rfl,_⟩ := h; exact ⟨m,rfl⟩
theorem sh4 {n : Nat} {pvs : List PV} (h : Sh Tryz.prog n 4 pvs) : ∃ v : Bool,pvs = [aG v] := by
 cases n with
 | zero=>simp [Sh] at h
 | succ n=>simp only [Sh,Tryz.underlying4] at h; obtain ⟨m,rfl⟩ := h; exact ⟨m,rfl⟩
theorem sh68 {n : Nat} {pvs : List PV} (h : Sh Tryz.prog n 68 pvs) : ∃ v : LCol,pvs = bg v := by
 cases n with
 | zero=>simp [Sh] at h
 | succ n =>
  simp only [Sh,Tryz.underlying68,List.map_cons,List.map_nil,gc] at h
  obtain ⟨p0,r0,rfl,h0,p1,r1,rfl,h1,p2,r2,rfl,h2,rfl⟩ := h
  obtain ⟨v0,rfl⟩ := sh9 h0
  obtain ⟨v1,rfl⟩ := sh3 h1
  obtain ⟨v2,rfl⟩ := sh4 h2
  exact ⟨LCol.mk v0 v1 v2,rfl⟩
theorem sh60 {n : Nat} {pvs : List PV} (h : Sh Tryz.prog n 60 pvs) : ∃ v : List LCol,pvs = [.list 68 (v.map bg)] := by
 cases n with
 | zero=>simp [Sh] at h
 | succ n =>
  simp only [Sh,Tryz.underlying60] at h
  obtain ⟨rows,rfl,hr⟩ := h
  obtain ⟨xs,rfl⟩ := jT (f := bg) (fun r hq=>sh68 (hr r hq))
  exact ⟨xs,rfl⟩
theorem sh44 {n : Nat} {pvs : List PV} (h : Sh Tryz.prog n 44 pvs) : ∃ v : List Int,pvs = [.list 3 (v.map bP)] := by
 cases n with
 | zero=>simp [Sh] at h
 | succ n =>
  simp only [Sh,Tryz.underlying44] at h
  obtain ⟨rows,rfl,hr⟩ := h
  obtain ⟨xs,rfl⟩ := jT (f := bP) (fun r hq=>let ⟨v,e⟩ := sh3 (hr r hq); ⟨v,e⟩)
  exact ⟨xs,rfl⟩
theorem sh71 {n : Nat} {pvs : List PV} (h : Sh Tryz.prog n 71 pvs) : ∃ v : LTable,pvs = dz v := by
 cases n with
 | zero=>simp [Sh] at h
 | succ n =>
  simp only [Sh,Tryz.underlying71,List.map_cons,List.map_nil,gc] at h
  obtain ⟨p0,r0,rfl,h0,p1,r1,rfl,h1,p2,r2,rfl,h2,rfl⟩ := h
  obtain ⟨v0,rfl⟩ := sh9 h0
  obtain ⟨v1,rfl⟩ := sh60 h1
  obtain ⟨v2,rfl⟩ := sh44 h2
  exact ⟨LTable.mk v0 v1 v2,rfl⟩
theorem sh22 {n : Nat} {pvs : List PV} (h : Sh Tryz.prog n 22 pvs) : ∃ v : List LTable,pvs = [.list 71 (v.map dz)] := by
 cases n with
 | zero=>simp [Sh] at h
 | succ n =>
  simp only [Sh,Tryz.underlying22] at h
  obtain ⟨rows,rfl,hr⟩ := h
  obtain ⟨xs,rfl⟩ := jT (f := dz) (fun r hq=>sh71 (hr r hq))
  exact ⟨xs,rfl⟩
theorem sh135 {n : Nat} {pvs : List PV} (h : Sh Tryz.prog n 135 pvs) : ∃ v : LForeignKey,pvs = iH v := by
 cases n with
 | zero=>simp [Sh] at h
 | succ n =>
  simp only [Sh,Tryz.underlying135,List.map_cons,List.map_nil,gc] at h
  obtain ⟨p0,r0,rfl,h0,p1,r1,rfl,h1,p2,r2,rfl,h2,rfl⟩ := h
  obtain ⟨v0,rfl⟩ := sh9 h0
  obtain ⟨v1,rfl⟩ := sh44 h1
  obtain ⟨v2,rfl⟩ := sh9 h2
  exact ⟨LForeignKey.mk v0 v1 v2,rfl⟩
theorem sh23 {n : Nat} {pvs : List PV} (h : Sh Tryz.prog n 23 pvs) : ∃ v : List LForeignKey,pvs = [.list 135 (v.map iH)] := by
 cases n with
 | zero=>simp [Sh] at h
 | succ n =>
  simp only [Sh,Tryz.underlying23] at h
  obtain ⟨rows,rfl,hr⟩ := h
  obtain ⟨xs,rfl⟩ := jT (f := iH) (fun r hq=>sh135 (hr r hq))
  exact ⟨xs,rfl⟩
theorem sh73 {n : Nat} {pvs : List PV} (h : Sh Tryz.prog n 73 pvs) : ∃ v : LVal,pvs = hJ v := by
 cases n with
 | zero=>simp [Sh] at h
 | succ n =>
  simp only [Sh,Tryz.underlying73,List.map_cons,List.map_nil,gc] at h
  obtain ⟨p0,r0,rfl,h0,p1,r1,rfl,h1,p2,r2,rfl,h2,rfl⟩ := h
  obtain ⟨v0,rfl⟩ := sh3 h0
  obtain ⟨v1,rfl⟩ := sh3 h1
  obtain ⟨v2,rfl⟩ := sh9 h2
  exact ⟨LVal.mk v0 v1 v2,rfl⟩
theorem sh141 {n : Nat} {pvs : List PV} (h : Sh Tryz.prog n 141 pvs) : ∃ v : LConstraint,pvs = jy v := by
 cases n with
 | zero=>simp [Sh] at h
 | succ n =>
  simp only [Sh,Tryz.underlying141,List.map_cons,List.map_nil,gc] at h
  obtain ⟨p0,r0,rfl,h0,p1,r1,rfl,h1,p2,r2,rfl,h2,p3,r3,rfl,h3,p4,r4,rfl,h4,rfl⟩ := h
  obtain ⟨v0,rfl⟩ := sh9 h0
  obtain ⟨v1,rfl⟩ := sh3 h1
  obtain ⟨v2,rfl⟩ := sh9 h2
  obtain ⟨v3,rfl⟩ := sh3 h3
  obtain ⟨v4,rfl⟩ := sh73 h4
  exact ⟨LConstraint.mk v0 v1 v2 v3 v4,rfl⟩
theorem sh24 {n : Nat} {pvs : List PV} (h : Sh Tryz.prog n 24 pvs) : ∃ v : List LConstraint,pvs = [.list 141 (v.map jy)] := by
 cases n with
 | zero=>simp [Sh] at h
 | succ n =>
  simp only [Sh,Tryz.underlying24] at h
  obtain ⟨rows,rfl,hr⟩ := h
  obtain ⟨xs,rfl⟩ := jT (f := jy) (fun r hq=>sh141 (hr r hq))
  exact ⟨xs,rfl⟩
theorem sh26 {n : Nat} {pvs : List PV} (h : Sh Tryz.prog n 26 pvs) : ∃ v : LSchema,pvs = bK v := by
 cases n with
 | zero=>simp [Sh] at h
 | succ n =>
  simp only [Sh,Tryz.underlying26,List.map_cons,List.map_nil,gc] at h
  obtain ⟨p0,r0,rfl,h0,p1,r1,rfl,h1,p2,r2,rfl,h2,rfl⟩ := h
  obtain ⟨v0,rfl⟩ := sh22 h0
  obtain ⟨v1,rfl⟩ := sh23 h1
  obtain ⟨v2,rfl⟩ := sh24 h2
  exact ⟨LSchema.mk v0 v1 v2,rfl⟩
theorem sh27 {n : Nat} {pvs : List PV} (h : Sh Tryz.prog n 27 pvs) : ∃ v : List (List UInt8),pvs = [.list 9 (v.map ah)] := by
 cases n with
 | zero=>simp [Sh] at h
 | succ n =>
  simp only [Sh,Tryz.underlying27] at h
  obtain ⟨rows,rfl,hr⟩ := h
  obtain ⟨xs,rfl⟩ := jT (f := ah) (fun r hq=>let ⟨v,e⟩ := sh9 (hr r hq); ⟨v,e⟩)
  exact ⟨xs,rfl⟩
theorem sh91 {n : Nat} {pvs : List PV} (h : Sh Tryz.prog n 91 pvs) : ∃ v : LExpr,pvs = aF v := by
 induction n generalizing pvs with
 | zero=>simp [Sh] at h
 | succ n ih =>
  simp only [Sh,Tryz.underlying91,List.map_cons,List.map_nil,gc] at h
  obtain ⟨p0,r0,rfl,h0,p1,r1,rfl,h1,p2,r2,rfl,h2,p3,r3,rfl,h3,p4,r4,rfl,h4,rfl⟩ := h
  obtain ⟨v0,rfl⟩ := sh3 h0
  obtain ⟨v1,rfl⟩ := sh9 h1
  obtain ⟨v2,rfl⟩ := sh3 h2
  obtain ⟨v3,rfl⟩ := sh73 h3
  cases n with
  | zero=>simp [Sh] at h4
  | succ n =>
  simp only [Sh,Tryz.underlying28] at h4
  obtain ⟨rows,rfl,hr4⟩ := h4
  obtain ⟨v4,rfl⟩ := rowsUp (f := aF) (rfl) ih hr4
  exact ⟨LExpr.mk v0 v1 v2 v3 v4,by rw [cb]; rfl⟩
theorem sh28 {n : Nat} {pvs : List PV} (h : Sh Tryz.prog n 28 pvs) : ∃ v : List LExpr,pvs = [.list 91 (v.map aF)] := by
 cases n with
 | zero=>simp [Sh] at h
 | succ n =>
  simp only [Sh,Tryz.underlying28] at h
  obtain ⟨rows,rfl,hr⟩ := h
  obtain ⟨xs,rfl⟩ := jT (f := aF) (fun r hq=>sh91 (hr r hq))
  exact ⟨xs,rfl⟩
theorem sh88 {n : Nat} {pvs : List PV} (h : Sh Tryz.prog n 88 pvs) : ∃ v : LAggregateCall,pvs = bV v := by
 cases n with
 | zero=>simp [Sh] at h
 | succ n =>
  simp only [Sh,Tryz.underlying88,List.map_cons,List.map_nil,gc] at h
  obtain ⟨p0,r0,rfl,h0,p1,r1,rfl,h1,p2,r2,rfl,h2,rfl⟩ := h
  obtain ⟨v0,rfl⟩ := sh9 h0
  obtain ⟨v1,rfl⟩ := sh9 h1
  obtain ⟨v2,rfl⟩ := sh28 h2
  exact ⟨LAggregateCall.mk v0 v1 v2,rfl⟩
theorem sh29 {n : Nat} {pvs : List PV} (h : Sh Tryz.prog n 29 pvs) : ∃ v : List LAggregateCall,pvs = [.list 88 (v.map bV)] := by
 cases n with
 | zero=>simp [Sh] at h
 | succ n =>
  simp only [Sh,Tryz.underlying29] at h
  obtain ⟨rows,rfl,hr⟩ := h
  obtain ⟨xs,rfl⟩ := jT (f := bV) (fun r hq=>sh88 (hr r hq))
  exact ⟨xs,rfl⟩
theorem sh30 {n : Nat} {pvs : List PV} (h : Sh Tryz.prog n 30 pvs) : ∃ v : List Bool,pvs = [.list 4 (v.map dl)] := by
 cases n with
 | zero=>simp [Sh] at h
 | succ n =>
  simp only [Sh,Tryz.underlying30] at h
  obtain ⟨rows,rfl,hr⟩ := h
  obtain ⟨xs,rfl⟩ := jT (f := dl) (fun r hq=>let ⟨v,e⟩ := sh4 (hr r hq); ⟨v,e⟩)
  exact ⟨xs,rfl⟩
theorem sh33 {n : Nat} {pvs : List PV} (h : Sh Tryz.prog n 33 pvs) : ∃ v : LQuery,pvs = aZ v := by
 induction n generalizing pvs with
 | zero=>simp [Sh] at h
 | succ n ih =>
  simp only [Sh,Tryz.underlying33,List.map_cons,List.map_nil,gc] at h
  obtain ⟨p0,r0,rfl,h0,p1,r1,rfl,h1,p2,r2,rfl,h2,p3,r3,rfl,h3,p4,r4,rfl,h4,p5,r5,rfl,h5,p6,r6,rfl,h6,p7,r7,rfl,h7,p8,r8,rfl,h8,rfl⟩ := h
  obtain ⟨v0,rfl⟩ := sh3 h0
  obtain ⟨v1,rfl⟩ := sh9 h1
  obtain ⟨v2,rfl⟩ := sh27 h2
  obtain ⟨v3,rfl⟩ := sh28 h3
  obtain ⟨v4,rfl⟩ := sh29 h4
  obtain ⟨v5,rfl⟩ := sh30 h5
  obtain ⟨v6,rfl⟩ := sh3 h6
  obtain ⟨v7,rfl⟩ := sh3 h7
  cases n with
  | zero=>simp [Sh] at h8
  | succ n =>
  simp only [Sh,Tryz.underlying31] at h8
  obtain ⟨rows,rfl,hr8⟩ := h8
  obtain ⟨v8,rfl⟩ := rowsUp (f := aZ) (rfl) ih hr8
  exact ⟨LQuery.mk v0 v1 v2 v3 v4 v5 v6 v7 v8,by rw [bH]; rfl⟩
theorem law_args : ∀ args,ArgsSh Tryz.prog Tryz.f4.params.toList args → aO args ≤ 1048576 → ba Tryz.prog 4 args (.val (.bool true)) := by
 intro args h hN
 rw [Tryz.params4] at h
 simp only [ArgsSh] at h
 obtain ⟨n0,p0,r0,rfl,h0,n1,p1,r1,rfl,h1,n2,p2,r2,rfl,h2,rfl⟩ := h
 obtain ⟨v0,rfl⟩ := sh26 h0
 obtain ⟨v1,rfl⟩ := sh33 h1
 obtain ⟨v2,rfl⟩ := sh27 h2
 have e0 : kv Tryz.prog 26 (bK v0) = .agg (bK v0) := by simp only [kv,Tryz.underlying26]
 rw [e0] at hN ⊢
 have e1 : kv Tryz.prog 33 (aZ v1) = .agg (aZ v1) := by simp only [kv,Tryz.underlying33]
 rw [bH] at e1
 rw [bH v1,e1] at hN ⊢
 have e2 : kv Tryz.prog 27 [.list 9 (v2.map ah)] = .list 9 (v2.map ah) := by simp only [kv,Tryz.underlying27]; rfl
 rw [e2] at hN ⊢
 simp only [aO,PV.bulk] at hN
 have hs0 : pr v0 := smallS_bulk (n := 1048576) (by omega) (by omega)
 have hq : aO (aA v1) ≤ 1048576 := by omega
 exact jQ v0 v1 v2 true (rJ hs0 hq v2)
set_option maxRecDepth 100000 in
theorem law_wf : (fun (P : Program) (f : FuncId) (fn : Func) (s : ChangeSpec) (c : OpenClaim)=>(P.funcs.size,f,fn.params.size,s.name,c.func,c.wf (OpenSpec.ofChange s)).2.2.2.2.2) Tryz.prog 4 Tryz.f4 (Rows.OpenSpec.upto Rows.pruneColumnsReducesScansSpec).bare Rows.pruneColumnsReducesScansUptoRow = true := by kernel_rfl
set_option maxRecDepth 100000 in
theorem law_laid : (fun (P : Program) (f : FuncId) (fn : Func) (s : ChangeSpec) (c : OpenClaim)=>(P.funcs.size,f,fn.params.size,s.name,c.func,laidOutB P).2.2.2.2.2) Tryz.prog 4 Tryz.f4 (Rows.OpenSpec.upto Rows.pruneColumnsReducesScansSpec).bare Rows.pruneColumnsReducesScansUptoRow = true := by kernel_rfl
set_option maxRecDepth 100000 in
theorem law_mapsRowed : (fun (P : Program) (f : FuncId) (fn : Func) (s : ChangeSpec) (c : OpenClaim)=>(P.funcs.size,f,fn.params.size,s.name,c.func,mapsRowed P).2.2.2.2.2) Tryz.prog 4 Tryz.f4 (Rows.OpenSpec.upto Rows.pruneColumnsReducesScansSpec).bare Rows.pruneColumnsReducesScansUptoRow = true := by kernel_rfl
set_option maxRecDepth 100000 in
theorem law_rr : (fun (P : Program) (f : FuncId) (fn : Func) (s : ChangeSpec) (c : OpenClaim)=>(P.funcs.size,f,fn.params.size,s.name,c.func,fn.params.all (P.readableRec ·)).2.2.2.2.2) Tryz.prog 4 Tryz.f4 (Rows.OpenSpec.upto Rows.pruneColumnsReducesScansSpec).bare Rows.pruneColumnsReducesScansUptoRow = true := by kernel_rfl
set_option maxRecDepth 100000 in
theorem law_nt : (fun (P : Program) (f : FuncId) (fn : Func) (s : ChangeSpec) (c : OpenClaim)=>(P.funcs.size,f,fn.params.size,s.name,c.func,namedTie P c.named s.vars).2.2.2.2.2) Tryz.prog 4 Tryz.f4 (Rows.OpenSpec.upto Rows.pruneColumnsReducesScansSpec).bare Rows.pruneColumnsReducesScansUptoRow = true := by kernel_rfl
set_option maxRecDepth 100000 in
theorem law_st : (fun (P : Program) (f : FuncId) (fn : Func) (s : ChangeSpec) (c : OpenClaim)=>(P.funcs.size,f,fn.params.size,s.name,c.func,(c.stops == []) && (P.stops == []) && (c.knobs == []) && (P.stopKnobs == [])).2.2.2.2.2) Tryz.prog 4 Tryz.f4 (Rows.OpenSpec.upto Rows.pruneColumnsReducesScansSpec).bare Rows.pruneColumnsReducesScansUptoRow = true := by kernel_rfl
set_option maxRecDepth 100000 in
theorem law_inPlace : (fun (P : Program) (f : FuncId) (fn : Func) (s : ChangeSpec) (c : OpenClaim)=>(P.funcs.size,f,fn.params.size,s.name,c.func,c.inPlace == P.inPlace f).2.2.2.2.2) Tryz.prog 4 Tryz.f4 (Rows.OpenSpec.upto Rows.pruneColumnsReducesScansSpec).bare Rows.pruneColumnsReducesScansUptoRow = true := by kernel_rfl
set_option maxRecDepth 100000 in
theorem law_unf : (fun (P : Program) (f : FuncId) (fn : Func) (s : ChangeSpec) (c : OpenClaim)=>(P.funcs.size,f,fn.params.size,s.name,c.func,c.unfollowed == P.unfollowed f).2.2.2.2.2) Tryz.prog 4 Tryz.f4 (Rows.OpenSpec.upto Rows.pruneColumnsReducesScansSpec).bare Rows.pruneColumnsReducesScansUptoRow = true := by kernel_rfl
set_option maxRecDepth 100000 in
theorem law_rec : (fun (P : Program) (f : FuncId) (fn : Func) (s : ChangeSpec) (c : OpenClaim)=>(P.funcs.size,f,fn.params.size,s.name,c.func,c.recurses == P.recurses f).2.2.2.2.2) Tryz.prog 4 Tryz.f4 (Rows.OpenSpec.upto Rows.pruneColumnsReducesScansSpec).bare Rows.pruneColumnsReducesScansUptoRow = true := by kernel_rfl
set_option maxRecDepth 100000 in
theorem law_named : (fun (P : Program) (f : FuncId) (fn : Func) (s : ChangeSpec) (c : OpenClaim)=>(P.funcs.size,f,fn.params.size,s.name,c.func,c.named == P.varsNamed f).2.2.2.2.2) Tryz.prog 4 Tryz.f4 (Rows.OpenSpec.upto Rows.pruneColumnsReducesScansSpec).bare Rows.pruneColumnsReducesScansUptoRow = true := by kernel_rfl
set_option maxRecDepth 100000 in
theorem law_maps : (fun (P : Program) (f : FuncId) (fn : Func) (s : ChangeSpec) (c : OpenClaim)=>(P.funcs.size,f,fn.params.size,s.name,c.func,(c.maps == (fn.params.toList ++ s.plain.varTypes P).any (P.mapsRec ·)) && (c.ifaces == (fn.params.toList ++ s.plain.varTypes P).any (P.ifacesRec ·)) && (c.mapsOut == P.mapsAmong fn.resultTypes.toList)).2.2.2.2.2) Tryz.prog 4 Tryz.f4 (Rows.OpenSpec.upto Rows.pruneColumnsReducesScansSpec).bare Rows.pruneColumnsReducesScansUptoRow = true := by kernel_rfl
set_option maxRecDepth 100000 in
theorem law_loops : (fun (P : Program) (f : FuncId) (fn : Func) (s : ChangeSpec) (c : OpenClaim)=>(P.funcs.size,f,fn.params.size,s.name,c.func,(c.loops == (fn.params.toList ++ s.plain.varTypes P).any (P.loopsFrom ·))).2.2.2.2.2) Tryz.prog 4 Tryz.f4 (Rows.OpenSpec.upto Rows.pruneColumnsReducesScansSpec).bare Rows.pruneColumnsReducesScansUptoRow = true := by kernel_rfl
set_option maxRecDepth 100000 in
theorem law_wide : (fun (P : Program) (f : FuncId) (fn : Func) (s : ChangeSpec) (c : OpenClaim)=>(P.funcs.size,f,fn.params.size,s.name,c.func,(c.wideKeys == (fn.params.toList ++ s.plain.varTypes P ++ fn.resultTypes.toList).any (P.wideKeysFrom ·))).2.2.2.2.2) Tryz.prog 4 Tryz.f4 (Rows.OpenSpec.upto Rows.pruneColumnsReducesScansSpec).bare Rows.pruneColumnsReducesScansUptoRow = true := by kernel_rfl
set_option maxRecDepth 100000 in
theorem law_rest1 : (fun (P : Program) (f : FuncId) (fn : Func) (s : ChangeSpec) (c : OpenClaim)=>(P.funcs.size,f,fn.params.size,s.name,c.func,s.vars.all (P.varReadable ·) && fn.resultTypes.all (fun t=>P.readableRec t && decide (t < P.types.size)) && (c.ifacesOut == fn.resultTypes.toList.any (P.ifacesRec ·)) && (c.loopsOut == fn.resultTypes.toList.any (P.loopsFrom ·))).2.2.2.2.2) Tryz.prog 4 Tryz.f4 (Rows.OpenSpec.upto Rows.pruneColumnsReducesScansSpec).bare Rows.pruneColumnsReducesScansUptoRow = true := by kernel_rfl
set_option maxRecDepth 100000 in
theorem law_plainKeys : (fun (P : Program) (f : FuncId) (fn : Func) (s : ChangeSpec) (c : OpenClaim)=>(P.funcs.size,f,fn.params.size,s.name,c.func,c.plainKeys == P.plainKeys).2.2.2.2.2) Tryz.prog 4 Tryz.f4 (Rows.OpenSpec.upto Rows.pruneColumnsReducesScansSpec).bare Rows.pruneColumnsReducesScansUptoRow = true := by kernel_rfl
set_option maxRecDepth 100000 in
theorem law_rest2 : (fun (P : Program) (f : FuncId) (fn : Func) (s : ChangeSpec) (c : OpenClaim)=>(P.funcs.size,f,fn.params.size,s.name,c.func,c.shortTexts.isNone && P.stopsHeard && P.mayEnter && (c.lifted == P.liftsFinal) && (P.make == some c.make)).2.2.2.2.2) Tryz.prog 4 Tryz.f4 (Rows.OpenSpec.upto Rows.pruneColumnsReducesScansSpec).bare Rows.pruneColumnsReducesScansUptoRow = true := by kernel_rfl
set_option maxRecDepth 100000 in
theorem law_kinds : (fun (P : Program) (f : FuncId) (fn : Func) (s : ChangeSpec) (c : OpenClaim)=>(P.funcs.size,f,fn.params.size,s.name,c.func,(c.kinds == (if c.domain.isEmpty then [] else fn.params.toList.map fun t=>match P.underlying t with | some (.int k)=>some k | _=>none)) && (c.pinned == c.pinnedBy)).2.2.2.2.2) Tryz.prog 4 Tryz.f4 (Rows.OpenSpec.upto Rows.pruneColumnsReducesScansSpec).bare Rows.pruneColumnsReducesScansUptoRow = true := by kernel_rfl
set_option maxRecDepth 100000 in
theorem law_veil : (fun (P : Program) (f : FuncId) (fn : Func) (s : ChangeSpec) (c : OpenClaim)=>(P.funcs.size,f,fn.params.size,s.name,c.func,(c.veiled == (fn.params.toList ++ s.plain.varTypes P ++ fn.resultTypes.toList).any (P.veiledRec ·)) && c.veiledFits P fn.params.toList (fn.params.toList ++ s.plain.varTypes P ++ fn.resultTypes.toList)).2.2.2.2.2) Tryz.prog 4 Tryz.f4 (Rows.OpenSpec.upto Rows.pruneColumnsReducesScansSpec).bare Rows.pruneColumnsReducesScansUptoRow = true := by kernel_rfl
set_option maxRecDepth 100000 in
theorem law_facts : joinedFacts Tryz.prog 4 Tryz.f4 (Rows.OpenSpec.upto Rows.pruneColumnsReducesScansSpec).bare Rows.pruneColumnsReducesScansUptoRow = true := joined_of law_wf law_laid law_mapsRowed law_rr law_nt law_st law_inPlace law_unf law_rec law_named law_maps law_loops law_wide law_rest1 law_plainKeys law_rest2 law_kinds law_veil
theorem gl_all (W : World) : Gl W [] := by
 refine ⟨⟨?_,?_,?_⟩,?_⟩
 ·intro b hb; simp [glI] at hb
 ·intro b hb; simp [glT] at hb
 ·intro b hb; simp [glN] at hb
 ·intro b hb; simp [glB,glI,glT,glN] at hb
def putVar (h : Array Go.Obj) (g : Nat) (cs : Array Value) : Array Go.Obj := h.modify g fun
 | .cells _ t fz=>.cells cs t fz
 | o=>o
def lowBlk : Nat := (World.holding Tryz.prog default ⟨#[],#[],[]⟩).heap.size
def qt (os : Os) : World :=
 let w0 := World.holding Tryz.prog os ⟨#[.cells #[.string ⟨#[118,97,108,117,101,32,111,117,116,32,111,102,32,114,97,110,103,101]⟩] 363,.cells #[.string ⟨#[105,110,118,97,108,105,100,32,115,121,110,116,97,120]⟩] 363],#[],[]⟩
 { w0 with heap := (putVar (putVar (putVar (putVar (putVar w0.heap 4 #[.int .u8 0,.int .u8 1,.int .u8 28,.int .u8 2,.int .u8 29,.int .u8 14,.int .u8 24,.int .u8 3,.int .u8 30,.int .u8 22,.int .u8 20,.int .u8 15,.int .u8 25,.int .u8 17,.int .u8 4,.int .u8 8,.int .u8 31,.int .u8 27,.int .u8 13,.int .u8 23,.int .u8 21,.int .u8 19,.int .u8 16,.int .u8 7,.int .u8 26,.int .u8 12,.int .u8 18,.int .u8 6,.int .u8 11,.int .u8 5,.int .u8 10,.int .u8 9]) 5 #[.int .u8 0,.int .u8 1,.int .u8 56,.int .u8 2,.int .u8 57,.int .u8 49,.int .u8 28,.int .u8 3,.int .u8 61,.int .u8 58,.int .u8 42,.int .u8 50,.int .u8 38,.int .u8 29,.int .u8 17,.int .u8 4,.int .u8 62,.int .u8 47,.int .u8 59,.int .u8 36,.int .u8 45,.int .u8 43,.int .u8 51,.int .u8 22,.int .u8 53,.int .u8 39,.int .u8 33,.int .u8 30,.int .u8 24,.int .u8 18,.int .u8 12,.int .u8 5,.int .u8 63,.int .u8 55,.int .u8 48,.int .u8 27,.int .u8 60,.int .u8 41,.int .u8 37,.int .u8 16,.int .u8 46,.int .u8 35,.int .u8 44,.int .u8 21,.int .u8 52,.int .u8 32,.int .u8 23,.int .u8 11,.int .u8 54,.int .u8 26,.int .u8 40,.int .u8 15,.int .u8 34,.int .u8 20,.int .u8 31,.int .u8 10,.int .u8 25,.int .u8 14,.int .u8 19,.int .u8 9,.int .u8 13,.int .u8 8,.int .u8 7,.int .u8 6]) 3 #[.int .u64 1,.int .u64 10,.int .u64 100,.int .u64 1000,.int .u64 10000,.int .u64 100000,.int .u64 1000000,.int .u64 10000000,.int .u64 100000000,.int .u64 1000000000,.int .u64 10000000000,.int .u64 100000000000,.int .u64 1000000000000,.int .u64 10000000000000,.int .u64 100000000000000,.int .u64 1000000000000000,.int .u64 10000000000000000,.int .u64 100000000000000000,.int .u64 1000000000000000000,.int .u64 10000000000000000000]) 2 #[.iface 361 (.pointer (some ⟨lowBlk,0,none⟩))]) 1 #[.iface 361 (.pointer (some ⟨lowBlk + 1,0,none⟩))]) }
set_option maxRecDepth 100000 in
theorem laid_met (os : Os) : laidMet Tryz.prog Rows.pruneColumnsReducesScansUptoRow.laid ((qt os).forCall (fun _ _=>0) ⟨#[],#[.agg #[.slice none 0 0,.slice none 0 0,.slice none 0 0],.agg #[.int .i64 0,.string ⟨#[]⟩,.slice none 0 0,.slice none 0 0,.slice none 0 0,.slice none 0 0,.int .i64 0,.int .i64 0,.slice none 0 0],.slice none 0 0],[]⟩).memory :=
 laidMet_of_run' 8 (by kernel_rfl) (by kernel_rfl)
theorem law_reads (os : Os) {H : Type} (enc : TypeId × Value → H) : ∃ lH,DataW.whole enc Tryz.prog ((qt os).forCall (fun _ _=>0) ⟨#[],#[.agg #[.slice none 0 0,.slice none 0 0,.slice none 0 0],.agg #[.int .i64 0,.string ⟨#[]⟩,.slice none 0 0,.slice none 0 0,.slice none 0 0,.slice none 0 0,.int .i64 0,.int .i64 0,.slice none 0 0],.slice none 0 0],[]⟩).memory Tryz.f4.params.toList (Rows.OpenSpec.upto Rows.pruneColumnsReducesScansSpec).vars false (#[.agg #[.slice none 0 0,.slice none 0 0,.slice none 0 0],.agg #[.int .i64 0,.string ⟨#[]⟩,.slice none 0 0,.slice none 0 0,.slice none 0 0,.slice none 0 0,.int .i64 0,.int .i64 0,.slice none 0 0],.slice none 0 0] : Array Value).toList 8 = some ([.agg [.nil,.nil,.nil],.agg [.lit (.int .i64 0),.lit (.string []),.nil,.nil,.nil,.nil,.lit (.int .i64 0),.lit (.int .i64 0),.nil],.nil],[],lH) :=
 ⟨[],by kernel_rfl⟩
set_option maxRecDepth 100000 in
theorem law_lifted (os : Os) (started : os.Started) (H : Type) (enc : TypeId × Value → H) (F : Stop.Interp) :
  ReturnsInHanded {} Tryz.checked os 4 .any ((Rows.OpenSpec.upto Rows.pruneColumnsReducesScansSpec).preRow enc Tryz.prog Tryz.f4 Rows.pruneColumnsReducesScansUptoRow.domain false Rows.pruneColumnsReducesScansUptoRow.laid) (((Rows.OpenSpec.upto Rows.pruneColumnsReducesScansSpec).at F).post enc Tryz.prog Tryz.f4 false true false false) := by
 obtain ⟨lH,hx⟩ := law_reads os enc
 refine returnsInHanded_of_row (C := Tryz.checked) (s := Rows.OpenSpec.upto Rows.pruneColumnsReducesScansSpec) own_knob started (by kernel_rfl) Tryz.func4
  (witness_row_at (enc := enc) (C := Tryz.checked) false (qt os) #[.agg #[.slice none 0 0,.slice none 0 0,.slice none 0 0],.agg #[.int .i64 0,.string ⟨#[]⟩,.slice none 0 0,.slice none 0 0,.slice none 0 0,.slice none 0 0,.int .i64 0,.int .i64 0,.slice none 0 0],.slice none 0 0] rfl (by kernel_rfl) (by kernel_rfl) (by kernel_rfl)
   (OpenSpec.preRow_of_cond 8 hx (by kernel_rfl) (fun k hk=>by obtain rfl := Option.some.inj hk; kernel_rfl) (by kernel_rfl) (laid_met os))) ?_
 intro W base args ds gs before hval hW _ hk hsz _ _ _
 have hN : ((ds ++ gs).map (fun d=>Rows.uptoBulk d)).sum ≤ 1048576 := by
  rw [oD]; exact of_decide_eq_true (hk Rows.uptoSmall rfl)
 refine law_callsB (s := Rows.pruneColumnsReducesScansSpec) (tb := 4) bulk_is laid_out rfl ?_ rfl Tryz.underlying4 ?_ lawTypes_ok lawTypes_info ?_ law_args hval hW (gl_all W) hsz hN
 ·rw [Tryz.params4]
  intro t ht
  simp only [List.mem_cons,List.mem_nil_iff,or_false] at ht
  rcases ht with rfl | rfl | rfl <;> exact ⟨by kernel_rfl,of_decide_eq_true (by kernel_rfl)⟩
 ·intro ds hlen
  rw [Tryz.params4] at hlen
  match ds,hlen with
  | [d0,d1,d2],_=>rfl
 ·rw [Tryz.params4]
  intro t ht
  simp only [List.mem_cons,List.mem_nil_iff,or_false] at ht
  rcases ht with rfl | rfl | rfl <;> simp [lawTypes]
theorem law_said : Rows.PruneColumnsReducesScansUptoSaid :=
 OpenClaim.holds_of_cond 4 Tryz.f4 rfl rfl rfl rfl rfl rfl rfl ⟨rfl,rfl,rfl,rfl,rfl⟩ rfl rfl rfl rfl rfl (by kernel_rfl) Tryz.func4 law_facts
  (of_decide_eq_true (by kernel_rfl)) (by unfold Func.isWrapper; first | (rw [zp (by decide +kernel)]; kernel_rfl) | (rw [zy (by decide +kernel)]; exact ⟨rfl,rfl⟩))
  (fun os started H enc _ F=>by rw [OpenClaim.pre_eq_preRow]; exact law_lifted os started H enc F)
theorem law_plain (f : FuncId) (fn : Func) (hf : Tryz.pinned.checked.prog.funcNamed "stemma/stemkeep3.PruneColumnsReducesScans" = some f) (hfn : Tryz.pinned.checked.prog.funcs[f]? = some fn) :
  true = Tryz.pinned.checked.prog.looks [] ∧ ∀ (j : Nat) t,fn.params[j]? = some t → Tryz.pinned.checked.prog.wantsStandIn t = false := by
 obtain rfl : f = 4 := Option.some.inj ((show Tryz.prog.funcNamed "stemma/stemkeep3.PruneColumnsReducesScans" = some 4 by kernel_rfl).symm.trans hf) |>.symm
 obtain rfl : fn = Tryz.f4 := (Option.some.inj (Tryz.func4.symm.trans hfn)).symm
 refine ⟨by kernel_rfl,fun j t ht=>?_⟩
 have hall : (Tryz.f4.params.toList.all fun u=>!Tryz.prog.wantsStandIn u) = true := by kernel_rfl
 have hm : t ∈ Tryz.f4.params.toList := by simpa using Array.mem_of_getElem? ht
 exact (show Tryz.prog.wantsStandIn t = false by simpa using List.all_eq_true.1 hall t hm)
theorem pruneColumnsReducesScansUpto_holds : Rows.PruneColumnsReducesScansUptoCardSaid :=
 Claim7.holds_tied_plain_at .later [] _ _ _ _ law_said (fun _ h=>by cases h) (by kernel_rfl) (fun _ h=>by cases h) pruneColumnsReducesScansUpto_row_tie rfl ⟨rfl,rfl⟩ (by kernel_rfl) rfl law_plain (by kernel_rfl)
end
end Go.Proofs.YtppmcepdcpmpcaaGreatDoor
