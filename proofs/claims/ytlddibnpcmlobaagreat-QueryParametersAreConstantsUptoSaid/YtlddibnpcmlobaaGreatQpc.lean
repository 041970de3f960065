/- queryParametersAreConstantsUpto_holds, part 3: the layer, the plain functions and what they compute; conditions as in the statement. -/
import Derived.Test.YtlddibnpcmlobaaGreatQpb
set_option maxHeartbeats 4000000
namespace Go.Proofs.YtlddibnpcmlobaaGreat
noncomputable section
open Go Go.Ab
attribute [local irreducible] V Ao Do Gh Eff PH IntKind.wrap
set_option maxRecDepth 4000
def mp (acc r : Int × Int) : Int × Int := (wr (acc.1 + r.1),if r.2 > acc.2 then r.2 else acc.2)
mutual
def iN : LExpr → Int × Int
 | .mk _ _ _ _ args=>let r := (sizesE args).foldl mp (1,0); (r.1,wr (r.2 + 1))
def sizesE : List LExpr → List (Int × Int)
 | []=>[]
 | e :: r=>iN e :: sizesE r
end
theorem sizesE_map : ∀ l,sizesE l = l.map iN
 | []=>rfl
 | e :: r=>by simp [sizesE,sizesE_map r]
theorem sizeE_eq (e : LExpr) : iN e = (((e.args.map iN).foldl mp (1,0)).1,wr (((e.args.map iN).foldl mp (1,0)).2 + 1)) := by
 cases e
 rw [iN,sizesE_map]
 rfl
theorem foldl_take {α β : Type} (g : β → α → β) (z : β) {l : List α} {j : Nat} (h : j < l.length) : (l.take (j + 1)).foldl g z = g ((l.take j).foldl g z) l[j] := by
 rw [List.take_add_one,ze h,List.foldl_append]
 rfl
theorem sizeStep_spec (e : LExpr) (ih : ∀ a ∈ e.args,aT Tryz.prog 116 [jt a] (.tup [al (iN a).1,al (iN a).2])) :
  aT Tryz.prog 116 [jt e] (.tup [al (iN e).1,al (iN e).2]) := by
 refine PH.ax Tryz.func116 Tryz.ntmps116 ?_
 repeat (first | refine ak tk rfl ?_ | refine ac ?_ | refine ab ?_ | refine aa ?_ | refine ao ?_ | refine aC rfl ?_ | refine aB rfl ?_ | refine ap ?_ | refine aw ?_ | refine aD rfl ?_ | refine ai tk ?_ | refine au ?_ | refine aF tk ?_ | (refine az tk rfl rfl rfl rfl rfl rfl ?_; intro bk) | refine ag tk ?_)
 refine eV tk 11 rfl rfl fun hl _=>?_
 rw [zl] at hl
 refine fm (X := Nat) (fun j=>⟨32,upd (upd (upd (upd (upd (fun _=>.any) 5 (al (((e.args.map iN).take j).foldl mp (1,0)).2)) 4 (al (((e.args.map iN).take j).foldl mp (1,0)).1)) 11 (pH e.args)) 12 (al (e.args.map dB).length)) 13 (al j),fun _=>none,fun _=>none⟩)
  (fun j=>j ≤ e.args.length) (fun j=>e.args.length - j) 0 (Nat.zero_le _) (Gh.le (ay (ay (ay (ay (ay br))))) aV aU) ?_
 intro j hj
 repeat (first | refine ak tk rfl ?_ | refine ac ?_ | refine ab ?_ | refine aa ?_ | refine ao ?_ | refine aC rfl ?_ | refine aB rfl ?_ | refine ap ?_ | refine aw ?_ | refine aD rfl ?_ | refine ai tk ?_ | refine au ?_ | refine aF tk ?_ | (refine az tk rfl rfl rfl rfl rfl rfl ?_; intro bk) | refine ag tk ?_)
 refine aQ rfl (fun h=>?_) (fun h=>?_)
 ·have hlt : j < e.args.length := by simpa using h
  repeat (first | refine ak tk rfl ?_ | refine ac ?_ | refine ab ?_ | refine aa ?_ | refine ao ?_ | refine aC rfl ?_ | refine aB rfl ?_ | refine ap ?_ | refine aw ?_ | refine aD rfl ?_ | refine ai tk ?_ | refine au ?_ | refine aF tk ?_ | (refine az tk rfl rfl rfl rfl rfl rfl ?_; intro bk) | refine ag tk ?_)
  refine bd tk (zn j) (ro hlt) ?_
  repeat (first | refine ak tk rfl ?_ | refine ac ?_ | refine ab ?_ | refine aa ?_ | refine ao ?_ | refine aC rfl ?_ | refine aB rfl ?_ | refine ap ?_ | refine aw ?_ | refine aD rfl ?_ | refine ai tk ?_ | refine au ?_ | refine aF tk ?_ | (refine az tk rfl rfl rfl rfl rfl rfl ?_; intro bk) | refine ag tk ?_)
  refine ae Tryz.call116 (fu.r) (ih _ (List.getElem_mem hlt)) ?_
  repeat (first | refine ak tk rfl ?_ | refine ac ?_ | refine ab ?_ | refine aa ?_ | refine ao ?_ | refine aC rfl ?_ | refine aB rfl ?_ | refine ap ?_ | refine aw ?_ | refine aD rfl ?_ | refine ai tk ?_ | refine au ?_ | refine aF tk ?_ | (refine az tk rfl rfl rfl rfl rfl rfl ?_; intro bk) | refine ag tk ?_)
  have e1 := foldl_take mp (1,0) (l := e.args.map iN) (j := j) (by simpa using hlt)
  rw [List.getElem_map] at e1
  refine kj (j + 1) (by omega) hlt (Gh.le (bP (PLe.q (eF (by omega))) (ay (ay (bP (PLe.q (by rw [e1]; rfl)) (bP (PLe.q (by rw [e1]; rfl)) br))))) aV aU)
 have hge : j = e.args.length := by have : ¬ j < e.args.length := by simpa using h
                                    omega
 subst hge
 rw [show (e.args.map iN).take e.args.length = e.args.map iN from by rw [List.take_of_length_le]; simp]
 repeat (first | refine ak tk rfl ?_ | refine ac ?_ | refine ab ?_ | refine aa ?_ | refine ao ?_ | refine aC rfl ?_ | refine aB rfl ?_ | refine ap ?_ | refine aw ?_ | refine aD rfl ?_ | refine ai tk ?_ | refine au ?_ | refine aF tk ?_ | (refine az tk rfl rfl rfl rfl rfl rfl ?_; intro bk) | refine ag tk ?_)
 refine tc tk rfl rfl rfl (PLe.q ?_)
 rw [sizeE_eq]
 rfl
theorem qH : ∀ e : LExpr,aT Tryz.prog 116 [jt e] (.tup [al (iN e).1,al (iN e).2])
 | .mk k n i x args=>sizeStep_spec (.mk k n i x args) fun a ha=>by
  have ha' : a ∈ args := ha
  exact qH a
def nT (c : UInt8) : Bool := (decide ((c.toNat : Int) ≥ 97) && decide ((c.toNat : Int) ≤ 122)) || (decide ((c.toNat : Int) ≥ 48) && decide ((c.toNat : Int) ≤ 57))
theorem inner_spec (c : UInt8) : aT Tryz.prog 125 [.val (.int .u8 c.toNat)] (aL (nT c)) := by
 refine PH.ax Tryz.func125 Tryz.ntmps125 ?_
 repeat' (first | (show Ao _ _ _ _ _; first | refine ak tk rfl ?_ | refine ac ?_ | refine ai tk ?_ | refine au ?_ | refine aF tk ?_ | (refine az tk rfl rfl rfl rfl rfl rfl ?_; intro bk) | refine ag tk ?_ | ((fail_if_success refine aR rfl ?_); refine aZ rfl rfl rfl (fun h=>?_) (fun h=>?_))) | (show V _ _ _ _ _; first | refine ab ?_ | refine aa ?_ | refine ao ?_ | refine aC rfl ?_ | refine aB rfl ?_ | refine ap ?_ | refine aw ?_ | refine aD rfl ?_ | refine aQ rfl (fun h=>?_) (fun h=>?_)) | (show Do _ _ _ _ _ _ _; first | refine bo rfl ?_ | refine aP ?_ | refine bg fun bk=>?_ | refine bQ rfl rfl rfl rfl rfl rfl rfl rfl rfl rfl rfl rfl ?_ | refine aH ?_ | ((fail_if_success refine be rfl rfl ?_); refine bA rfl rfl rfl rfl (fun h=>?_) (fun h=>?_))))
 all_goals refine cQ tk (PLe.q ?_)
 all_goals simp_all [nT]
 all_goals omega
theorem colIs_spec (c : LCol) (name : List UInt8) : aT Tryz.prog 130 [pcol c,.ptr [.str name]] (aL (c.name == name)) := by
 refine PH.ax Tryz.func130 Tryz.ntmps130 ?_
 repeat' (first | (show Ao _ _ _ _ _; first | refine ak tk rfl ?_ | refine ac ?_ | refine ai tk ?_ | refine au ?_ | refine aF tk ?_ | (refine az tk rfl rfl rfl rfl rfl rfl ?_; intro bk) | refine ag tk ?_ | ((fail_if_success refine aR rfl ?_); refine aZ rfl rfl rfl (fun h=>?_) (fun h=>?_))) | (show V _ _ _ _ _; first | refine ab ?_ | refine aa ?_ | refine ao ?_ | refine aC rfl ?_ | refine aB rfl ?_ | refine ap ?_ | refine aw ?_ | refine aD rfl ?_ | refine aQ rfl (fun h=>?_) (fun h=>?_)) | (show Do _ _ _ _ _ _ _; first | refine bo rfl ?_ | refine aP ?_ | refine bg fun bk=>?_ | refine bQ rfl rfl rfl rfl rfl rfl rfl rfl rfl rfl rfl rfl ?_ | refine aH ?_ | ((fail_if_success refine be rfl rfl ?_); refine bA rfl rfl rfl rfl (fun h=>?_) (fun h=>?_))))
 all_goals refine cQ tk (PLe.q rfl)
def kn (l : List LCol) (name : List UInt8) : LCol × Bool :=
 let i := bh (fun c : LCol=>c.name == name) l
 if i < 0 then (⟨[],0,false⟩,false) else (l.getD i.toNat ⟨[],0,false⟩,true)
theorem getCol {l : List LCol} {j : Int} (h0 : 0 ≤ j) (h : j < l.length) : (l.map aW)[j.toNat]? = some (aW (l.getD j.toNat ⟨[],0,false⟩)) := by
 have : j.toNat < l.length := by omega
 simp [this]
theorem idxOf_lt {α : Type} {p : α → Bool} {l : List α} : bh p l < l.length := by
 simp only [bh]
 split
 ·rename_i i h
  have := (List.findIdx?_eq_some_iff_getElem.1 h).1
  omega
 ·omega
theorem find_spec (l : List LCol) (name : List UInt8) : aT Tryz.prog 127 [jD l,.str name] (.tup [pcol (kn l name).1,aL (kn l name).2]) := by
 refine PH.ax Tryz.func127 Tryz.ntmps127 ?_
 repeat' (first | (show Ao _ _ _ _ _; first | refine ak tk rfl ?_ | refine ac ?_ | refine ai tk ?_ | refine au ?_ | refine aF tk ?_ | (refine az tk rfl rfl rfl rfl rfl rfl ?_; intro bk) | refine ag tk ?_ | refine ae Tryz.call82 (fu.r) (pS (p := fun c=>c.name == name) _ Tryz.call130 fun c _=>colIs_spec c name) ?_ | refine nN tk rfl rfl rfl rfl rfl rfl (Int.not_lt.1 (of_decide_eq_false (by assumption))) (getCol (Int.not_lt.1 (of_decide_eq_false (by assumption))) idxOf_lt) rfl ?_ | ((fail_if_success refine aR rfl ?_); refine aZ rfl rfl rfl (fun h=>?_) (fun h=>?_))) | (show V _ _ _ _ _; first | refine ab ?_ | refine aa ?_ | refine ao ?_ | refine aC rfl ?_ | refine aB rfl ?_ | refine ap ?_ | refine aw ?_ | refine aD rfl ?_ | refine aQ rfl (fun h=>?_) (fun h=>?_)) | (show Do _ _ _ _ _ _ _; first | refine bo rfl ?_ | refine aP ?_ | refine bg fun bk=>?_ | refine bQ rfl rfl rfl rfl rfl rfl rfl rfl rfl rfl rfl rfl ?_ | refine aH ?_ | refine am Tryz.call82 (fu.r) (pS (p := fun c=>c.name == name) _ Tryz.call130 fun c _=>colIs_spec c name) ?_ | ((fail_if_success refine be rfl rfl ?_); refine bA rfl rfl rfl rfl (fun h=>?_) (fun h=>?_))))
 all_goals refine V.retCT tk rfl rfl rfl rfl rfl rfl (PLe.q ?_)
 all_goals simp_all [kn]
 all_goals rw [zy (by omega)]
 all_goals exact ⟨⟨rfl,rfl,rfl⟩,rfl⟩
def cY (s : List UInt8) : Bool := decide (1 ≤ s.length) && decide (s.length ≤ 12) && (match s with | []=>false | c :: _=>decide (c.toNat ≥ 97) && decide (c.toNat ≤ 122)) && s.all nT
theorem idxStrAt {l : List UInt8} {j : Nat} (h : j < l.length) : l[((j : Nat) : Int).toNat]? = some l[j] := by simp [h]
theorem kq (s : List UInt8) : aT Tryz.prog 114 [.str s] (aL (cY s)) := by
 cases s with
 | nil =>
  refine PH.ax Tryz.func114 Tryz.ntmps114 ?_
  repeat' (first | (show Ao _ _ _ _ _; first | refine ak tk rfl ?_ | refine ac ?_ | refine ai tk ?_ | refine au ?_ | refine aF tk ?_ | (refine az tk rfl rfl rfl rfl rfl rfl ?_; intro bk) | refine ag tk ?_ | ((fail_if_success refine aR rfl ?_); refine aZ rfl rfl rfl (fun h=>?_) (fun h=>?_))) | (show V _ _ _ _ _; first | refine ab ?_ | refine aa ?_ | refine ao ?_ | refine aC rfl ?_ | refine aB rfl ?_ | refine ap ?_ | refine aw ?_ | refine aD rfl ?_ | refine aQ rfl (fun h=>?_) (fun h=>?_)) | (show Do _ _ _ _ _ _ _; first | refine bo rfl ?_ | refine aP ?_ | refine bg fun bk=>?_ | refine bQ rfl rfl rfl rfl rfl rfl rfl rfl rfl rfl rfl rfl ?_ | refine aH ?_ | ((fail_if_success refine be rfl rfl ?_); refine bA rfl rfl rfl rfl (fun h=>?_) (fun h=>?_))))
  all_goals refine cQ tk (PLe.q rfl)
 | cons c s =>
  refine PH.ax Tryz.func114 Tryz.ntmps114 ?_
  refine V.strF 0 rfl fun hl=>?_
  repeat' (first | (show Ao _ _ _ _ _; first | refine ak tk rfl ?_ | refine ac ?_ | refine ai tk ?_ | refine au ?_ | refine aF tk ?_ | (refine az tk rfl rfl rfl rfl rfl rfl ?_; intro bk) | refine ag tk ?_ | ((fail_if_success refine aR rfl ?_); refine aZ rfl rfl rfl (fun h=>?_) (fun h=>?_))) | (show V _ _ _ _ _; first | refine ab ?_ | refine aa ?_ | refine ao ?_ | refine aC rfl ?_ | refine aB rfl ?_ | refine ap ?_ | refine aw ?_ | refine aD rfl ?_ | refine aQ rfl (fun h=>?_) (fun h=>?_)) | (show Do _ _ _ _ _ _ _; first | refine bo rfl ?_ | refine aP ?_ | refine bg fun bk=>?_ | refine bQ rfl rfl rfl rfl rfl rfl rfl rfl rfl rfl rfl rfl ?_ | refine aH ?_ | ((fail_if_success refine be rfl rfl ?_); refine bA rfl rfl rfl rfl (fun h=>?_) (fun h=>?_))))
  case cons.refine_1 =>
   refine cQ tk (PLe.q ?_)
   have : ¬ (c :: s).length ≤ 12 := by simp only [decide_eq_true_eq] at h; omega
   have : cY (c :: s) = false := by simp only [cY,this]; simp
   rw [this]
  case cons.refine_2.refine_1 =>
   refine cQ tk (PLe.q ?_)
   have : ¬ c.toNat ≥ 97 := by simp only [decide_eq_true_eq] at h; omega
   simp [cY,this]
  case cons.refine_2.refine_2.refine_1 =>
   refine cQ tk (PLe.q ?_)
   have : ¬ c.toNat ≤ 122 := by simp only [decide_eq_true_eq] at h; omega
   simp [cY,this]
  rename_i h1 h2
  have hs : cY (c :: s) = (c :: s).all nT := by
   simp only [decide_eq_false_iff_not] at h1 h2 h
   have e1 : (c :: s).length ≤ 12 := by omega
   have e2 : c.toNat ≥ 97 := by omega
   have e3 : c.toNat ≤ 122 := by omega
   simp only [cY,e1,e2,e3]
   simp
  rw [hs]
  clear hs h h1 h2
  generalize hL : c :: s = L at *
  refine fm (X := Nat) (fun j=>⟨33,upd (upd (upd (fun _=>.any) 0 (.str L)) 23 (al L.length)) 24 (al j),fun _=>none,fun _=>none⟩)
   (fun j=>j ≤ L.length ∧ ∀ x ∈ L.take j,nT x = true) (fun j=>L.length - j) 0 ⟨Nat.zero_le _,by simp⟩ (Gh.le (ay (ay (ay br))) aV aU) ?_
  rintro j ⟨hj,hpre⟩
  repeat (first | refine ak tk rfl ?_ | refine ac ?_ | refine ab ?_ | refine aa ?_ | refine ao ?_ | refine aC rfl ?_ | refine aB rfl ?_ | refine ap ?_ | refine aw ?_ | refine aD rfl ?_ | refine ai tk ?_ | refine au ?_ | refine aF tk ?_ | (refine az tk rfl rfl rfl rfl rfl rfl ?_; intro bk) | refine ag tk ?_)
  refine aQ rfl (fun h=>?_) (fun h=>?_)
  ·have hlt : j < L.length := by simpa using h
   repeat (first | refine ak tk rfl ?_ | refine ac ?_ | refine ab ?_ | refine aa ?_ | refine ao ?_ | refine aC rfl ?_ | refine aB rfl ?_ | refine ap ?_ | refine aw ?_ | refine aD rfl ?_ | refine ai tk ?_ | refine au ?_ | refine aF tk ?_ | (refine az tk rfl rfl rfl rfl rfl rfl ?_; intro bk) | refine ag tk ?_)
   refine sD tk rfl rfl rfl rfl rfl rfl (zn j) (idxStrAt hlt) rfl ?_
   repeat (first | refine ak tk rfl ?_ | refine ac ?_ | refine ab ?_ | refine aa ?_ | refine ao ?_ | refine aC rfl ?_ | refine aB rfl ?_ | refine ap ?_ | refine aw ?_ | refine aD rfl ?_ | refine ai tk ?_ | refine au ?_ | refine aF tk ?_ | (refine az tk rfl rfl rfl rfl rfl rfl ?_; intro bk) | refine ag tk ?_)
   refine ae Tryz.call125 (fu.r) (inner_spec _) ?_
   repeat (first | refine ak tk rfl ?_ | refine ac ?_ | refine ab ?_ | refine aa ?_ | refine ao ?_ | refine aC rfl ?_ | refine aB rfl ?_ | refine ap ?_ | refine aw ?_ | refine aD rfl ?_ | refine ai tk ?_ | refine au ?_ | refine aF tk ?_ | (refine az tk rfl rfl rfl rfl rfl rfl ?_; intro bk) | refine ag tk ?_)
   refine aQ rfl (fun h=>?_) (fun h=>?_)
   ·repeat (first | refine ak tk rfl ?_ | refine ac ?_ | refine ab ?_ | refine aa ?_ | refine ao ?_ | refine aC rfl ?_ | refine aB rfl ?_ | refine ap ?_ | refine aw ?_ | refine aD rfl ?_ | refine ai tk ?_ | refine au ?_ | refine aF tk ?_ | (refine az tk rfl rfl rfl rfl rfl rfl ?_; intro bk) | refine ag tk ?_)
    refine cQ tk (PLe.q ?_)
    have : L.all nT = false := by
     rw [List.all_eq_false]
     exact ⟨L[j],List.getElem_mem hlt,by simpa using h⟩
    rw [this]
   ·repeat (first | refine ak tk rfl ?_ | refine ac ?_ | refine ab ?_ | refine aa ?_ | refine ao ?_ | refine aC rfl ?_ | refine aB rfl ?_ | refine ap ?_ | refine aw ?_ | refine aD rfl ?_ | refine ai tk ?_ | refine au ?_ | refine aF tk ?_ | (refine az tk rfl rfl rfl rfl rfl rfl ?_; intro bk) | refine ag tk ?_)
    refine kj (j + 1) (by omega) ⟨hlt,?_⟩ (Gh.le (bP (PLe.q (eF (by unfold maxLen; unfold iM at hl; omega))) (ay (ay br))) aV aU)
    intro x hx
    rw [List.take_add_one,ze hlt] at hx
    simp only [Option.toList,List.mem_append,List.mem_singleton] at hx
    rcases hx with hx | rfl
    ·exact hpre x hx
    ·simpa using h
  have hge : j = L.length := by have : ¬ j < L.length := by simpa using h
                                omega
  repeat (first | refine ak tk rfl ?_ | refine ac ?_ | refine ab ?_ | refine aa ?_ | refine ao ?_ | refine aC rfl ?_ | refine aB rfl ?_ | refine ap ?_ | refine aw ?_ | refine aD rfl ?_ | refine ai tk ?_ | refine au ?_ | refine aF tk ?_ | (refine az tk rfl rfl rfl rfl rfl rfl ?_; intro bk) | refine ag tk ?_)
  refine cQ tk (PLe.q ?_)
  have : L.all nT = true := by
   rw [List.all_eq_true]
   rw [hge] at hpre
   simpa using hpre
  rw [this]
abbrev KR := Int × Bool × Int
abbrev pkr (r : KR) : PV := .tup [al r.1,aL r.2.1,al r.2.2]
def kD (kind : Int) (nullable ok : Bool) : KR := if ok then (kind,nullable,0) else (0,false,7)
theorem cf (kind : Int) (nullable ok : Bool) : aT Tryz.prog 135 [al kind,aL nullable,aL ok] (pkr (kD kind nullable ok)) := by
 refine PH.ax Tryz.func135 Tryz.ntmps135 ?_
 repeat' (first | (show Ao _ _ _ _ _; first | refine ak tk rfl ?_ | refine ac ?_ | refine ai tk ?_ | refine au ?_ | refine aF tk ?_ | (refine az tk rfl rfl rfl rfl rfl rfl ?_; intro bk) | refine ag tk ?_ | ((fail_if_success refine aR rfl ?_); refine aZ rfl rfl rfl (fun h=>?_) (fun h=>?_))) | (show V _ _ _ _ _; first | refine ab ?_ | refine aa ?_ | refine ao ?_ | refine aC rfl ?_ | refine aB rfl ?_ | refine ap ?_ | refine aw ?_ | refine aD rfl ?_ | refine aQ rfl (fun h=>?_) (fun h=>?_)) | (show Do _ _ _ _ _ _ _; first | refine bo rfl ?_ | refine aP ?_ | refine bg fun bk=>?_ | refine bQ rfl rfl rfl rfl rfl rfl rfl rfl rfl rfl rfl rfl ?_ | refine aH ?_ | ((fail_if_success refine be rfl rfl ?_); refine bA rfl rfl rfl rfl (fun h=>?_) (fun h=>?_))))
 all_goals refine ff tk (PLe.q ?_)
 all_goals simp_all [kD]
def pr (a b : Int) : Bool := a == b || a == 0 || b == 0
theorem cq (a b : Int) : aT Tryz.prog 134 [al a,al b] (aL (pr a b)) := by
 refine PH.ax Tryz.func134 Tryz.ntmps134 ?_
 repeat' (first | (show Ao _ _ _ _ _; first | refine ak tk rfl ?_ | refine ac ?_ | refine ai tk ?_ | refine au ?_ | refine aF tk ?_ | (refine az tk rfl rfl rfl rfl rfl rfl ?_; intro bk) | refine ag tk ?_ | ((fail_if_success refine aR rfl ?_); refine aZ rfl rfl rfl (fun h=>?_) (fun h=>?_))) | (show V _ _ _ _ _; first | refine ab ?_ | refine aa ?_ | refine ao ?_ | refine aC rfl ?_ | refine aB rfl ?_ | refine ap ?_ | refine aw ?_ | refine aD rfl ?_ | refine aQ rfl (fun h=>?_) (fun h=>?_)) | (show Do _ _ _ _ _ _ _; first | refine bo rfl ?_ | refine aP ?_ | refine bg fun bk=>?_ | refine bQ rfl rfl rfl rfl rfl rfl rfl rfl rfl rfl rfl rfl ?_ | refine aH ?_ | ((fail_if_success refine be rfl rfl ?_); refine bA rfl rfl rfl rfl (fun h=>?_) (fun h=>?_))))
 all_goals refine cQ tk (PLe.q ?_)
 all_goals simp_all [pr]
theorem rY (n want : Int) : aT Tryz.prog 133 [al n,.ptr [al want]] (aL (n != want && n != 0)) := by
 refine PH.ax Tryz.func133 Tryz.ntmps133 ?_
 repeat' (first | (show Ao _ _ _ _ _; first | refine ak tk rfl ?_ | refine ac ?_ | refine ai tk ?_ | refine au ?_ | refine aF tk ?_ | (refine az tk rfl rfl rfl rfl rfl rfl ?_; intro bk) | refine ag tk ?_ | ((fail_if_success refine aR rfl ?_); refine aZ rfl rfl rfl (fun h=>?_) (fun h=>?_))) | (show V _ _ _ _ _; first | refine ab ?_ | refine aa ?_ | refine ao ?_ | refine aC rfl ?_ | refine aB rfl ?_ | refine ap ?_ | refine aw ?_ | refine aD rfl ?_ | refine aQ rfl (fun h=>?_) (fun h=>?_)) | (show Do _ _ _ _ _ _ _; first | refine bo rfl ?_ | refine aP ?_ | refine bg fun bk=>?_ | refine bQ rfl rfl rfl rfl rfl rfl rfl rfl rfl rfl rfl rfl ?_ | refine aH ?_ | ((fail_if_success refine be rfl rfl ?_); refine bA rfl rfl rfl rfl (fun h=>?_) (fun h=>?_))))
 all_goals refine cQ tk (PLe.q ?_)
 all_goals simp_all
def nw (want : Int) (l : List Int) : Bool := !(l.any fun n=>n != want && n != 0)
theorem co (want : Int) (l : List Int) : aT Tryz.prog 131 [al want,.ptr [pints l]] (aL (nw want l)) := by
 refine PH.ax Tryz.func131 Tryz.ntmps131 ?_
 repeat' (first | (show Ao _ _ _ _ _; first | refine ak tk rfl ?_ | refine ac ?_ | refine ai tk ?_ | refine au ?_ | refine aF tk ?_ | (refine az tk rfl rfl rfl rfl rfl rfl ?_; intro bk) | refine ag tk ?_ | refine ae Tryz.call132 (fu.r) (rM (p := fun n=>n != want && n != 0) l Tryz.call133 fun n _=>rY n want) ?_ | ((fail_if_success refine aR rfl ?_); refine aZ rfl rfl rfl (fun h=>?_) (fun h=>?_))) | (show V _ _ _ _ _; first | refine ab ?_ | refine aa ?_ | refine ao ?_ | refine aC rfl ?_ | refine aB rfl ?_ | refine ap ?_ | refine aw ?_ | refine aD rfl ?_ | refine aQ rfl (fun h=>?_) (fun h=>?_)) | (show Do _ _ _ _ _ _ _; first | refine bo rfl ?_ | refine aP ?_ | refine bg fun bk=>?_ | refine bQ rfl rfl rfl rfl rfl rfl rfl rfl rfl rfl rfl rfl ?_ | refine aH ?_ | refine am Tryz.call132 (fu.r) (rM (p := fun n=>n != want && n != 0) l Tryz.call133 fun n _=>rY n want) ?_ | ((fail_if_success refine be rfl rfl ?_); refine bA rfl rfl rfl rfl (fun h=>?_) (fun h=>?_))))
 all_goals refine cQ tk (PLe.q rfl)
def fw (x : Int) : KR := (0,false,x)
def dU (name : List UInt8) (kinds : List Int) (nullable : Bool) : KR :=
 if name == [43] || name == [45] || name == [42] then kD 1 true (nw 1 kinds)
 else if name == [124,124] then kD 3 true (nw 3 kinds)
 else if name == [108,101,110,103,116,104] then kD 1 nullable (nw 3 kinds)
 else if name == [97,110,100] || name == [111,114] || name == [110,111,116] then kD 2 nullable (nw 2 kinds)
 else if name == [105,115,32,110,117,108,108] then (2,false,0)
 else if name == [105,102] then kD (if kinds.getD 2 0 > kinds.getD 1 0 then kinds.getD 2 0 else kinds.getD 1 0) nullable (pr (kinds.getD 0 0) 2 && pr (kinds.getD 1 0) (kinds.getD 2 0))
 else kD 2 nullable (pr (kinds.getD 0 0) (kinds.getD 1 0))
def iS (name : List UInt8) (i : Int) (x : LVal) (ks : List KR) : KR :=
 if bX name ≠ some ks.length ∨ i ≠ 0 ∨ x ≠ .nul then fw 3
 else match ks.find? fun r=>r.2.2 != 0 with
  | some r=>fw r.2.2
  | none=>dU name (ks.map (·.1)) (ks.any (·.2.1))
mutual
def cR (cols vars : List LCol) : LExpr → KR
 | .mk k n i x args =>
  if k ≠ 5 ∧ 0 < args.length then fw 3
  else if k == 1 then (if dW x && n == [] && i == 0 then (x.kind,x.kind == 0,0) else fw 3)
  else if k == 3 then (if i < 0 ∨ i ≥ 8 ∨ n ≠ [] ∨ x.kind < 1 ∨ x.kind > 3 ∨ x ≠ ⟨x.kind,0,[]⟩ then fw 3 else (x.kind,true,0))
  else if k == 2 || k == 4 then
   (if cY n && i == 0 && decide (x = .nul) then
    (let r := kn (if k == 4 then vars else cols) n
     if r.2 then (r.1.kind,r.1.nullable,0) else fw 23)
    else fw 3)
  else if k == 5 then iS n i x (kindsE cols vars args)
  else fw 3
def kindsE (cols vars : List LCol) : List LExpr → List KR
 | []=>[]
 | e :: r=>cR cols vars e :: kindsE cols vars r
end
theorem pR (cols vars : List LCol) : ∀ l,kindsE cols vars l = l.map (cR cols vars)
 | []=>rfl
 | e :: r=>by simp [kindsE,pR cols vars r]
theorem arity_of_idx (name : List UInt8) : (bh (fun x=>name == x) dd < 0 ∧ bX name = none) ∨
  ∃ a : Nat,0 ≤ bh (fun x=>name == x) dd ∧ (opArity.map fun n=>[al n])[(bh (fun x=>name == x) dd).toNat]? = some [al a] ∧ bX name = some a := by
 by_cases hn : name ∈ dd
 ·refine .inr ?_
  simp only [dd,List.mem_cons,List.mem_nil_iff,or_false] at hn
  rcases hn with rfl | rfl | rfl | rfl | rfl | rfl | rfl | rfl | rfl | rfl | rfl | rfl | rfl <;> exact ⟨_,by decide,rfl,rfl⟩
 ·refine .inl ⟨?_,?_⟩
  ·rw [jT fun x hx=>by
    cases hb : name == x with
    | false=>rfl
    | true=>exact absurd (by rw [eq_of_beq hb]; exact hx) hn]
   decide
  ·simp only [dd,List.mem_cons,List.mem_nil_iff,or_false,not_or] at hn
   simp [bX,hn]
theorem find_at {α : Type} {p : α → Bool} {l : List α} {j : Nat} (hlt : j < l.length) (hpre : ∀ x ∈ l.take j,p x = false) (h : p l[j] = true) : l.find? p = some l[j] := by
 rw [List.find?_eq_some_iff_getElem]
 refine ⟨h,j,hlt,rfl,fun i hi=>?_⟩
 have := hpre l[i] (List.mem_take_iff_getElem.2 ⟨i,by omega,rfl⟩)
 simp [this]
theorem kindRows {cols vars : List LCol} {args : List LExpr} {j : Nat} (h : j < args.length) : ((args.take j).map (cR cols vars)).map (fun r=>[al r.1]) ++ [[al (cR cols vars args[j]).1]] = ((args.take (j + 1)).map (cR cols vars)).map fun r=>[al r.1] := by
 rw [List.take_add_one,ze h]
 simp only [List.map_append,Option.toList,List.map_cons,List.map_nil]
theorem kindAny {cols vars : List LCol} {args : List LExpr} {j : Nat} (h : j < args.length) : ((args.take (j + 1)).map (cR cols vars)).any (·.2.1) = (((args.take j).map (cR cols vars)).any (·.2.1) || (cR cols vars args[j]).2.1) := by
 rw [List.take_add_one,ze h]
 simp only [List.map_append,List.any_append,Option.toList,List.map_cons,List.map_nil,List.any_cons,List.any_nil,Bool.or_false]
theorem sd (cols vars : List LCol) (e : LExpr) (ih : ∀ a ∈ e.args,aT Tryz.prog 117 [jD cols,jD vars,jt a] (pkr (cR cols vars a))) :
  aT Tryz.prog 128 [jD cols,jD vars,jt e] (pkr (iS e.name e.index e.value (e.args.map (cR cols vars)))) := by
 rcases arity_of_idx e.name with ⟨hK,ha⟩ | ⟨ar,hK,hr,ha⟩
 ·refine PH.ax Tryz.func128 Tryz.ntmps128 ?_
  repeat' (first | (show Ao _ _ _ _ _; first | refine ak tk rfl ?_ | refine ac ?_ | refine ai tk ?_ | refine au ?_ | refine aF tk ?_ | (refine az tk rfl rfl rfl rfl rfl rfl ?_; intro bk) | refine ag tk ?_ | refine ae Tryz.call102 (fu.r) (cN) ?_ | refine ae Tryz.call48 (fu.r) (bv _ _) ?_ | ((fail_if_success refine aR rfl ?_); refine aZ rfl rfl rfl (fun h=>?_) (fun h=>?_))) | (show V _ _ _ _ _; first | refine ab ?_ | refine aa ?_ | refine ao ?_ | refine aC rfl ?_ | refine aB rfl ?_ | refine ap ?_ | refine aw ?_ | refine aD rfl ?_ | (show V _ _ _ (.code (.region 3 _ true) :: _) _; refine aJ tk mok ⟨false,false,[]⟩ [0,1,2,3,4,5,6,7,8,9,10,11,12,13,14,15,16,17,18,19,20,21,22] rfl (by decide +kernel) rfl ?_) | refine aQ rfl (fun h=>?_) (fun h=>?_)) | (show Do _ _ _ _ _ _ _; first | refine bo rfl ?_ | refine aP ?_ | refine bg fun bk=>?_ | refine bQ rfl rfl rfl rfl rfl rfl rfl rfl rfl rfl rfl rfl ?_ | refine aH ?_ | refine am Tryz.call102 (fu.r) (cN) ?_ | refine am Tryz.call48 (fu.r) (bv _ _) ?_ | ((fail_if_success refine be rfl rfl ?_); refine bA rfl rfl rfl rfl (fun h=>?_) (fun h=>?_))))
  all_goals try (exfalso; simp_all <;> omega; done)
  all_goals refine ff tk (PLe.q ?_)
  all_goals (have : iS e.name e.index e.value (e.args.map (cR cols vars)) = fw 3 := by simp [iS,ha])
  all_goals (rw [this]; rfl)
 ·refine PH.ax Tryz.func128 Tryz.ntmps128 ?_
  repeat' (first | (show Ao _ _ _ _ _; first | refine ak tk rfl ?_ | refine ac ?_ | refine ai tk ?_ | refine au ?_ | refine aF tk ?_ | (refine az tk rfl rfl rfl rfl rfl rfl ?_; intro bk) | refine ag tk ?_ | refine ae Tryz.call102 (fu.r) (cN) ?_ | refine ae Tryz.call48 (fu.r) (bv _ _) ?_ | ((fail_if_success refine aR rfl ?_); refine aZ rfl rfl rfl (fun h=>?_) (fun h=>?_))) | (show V _ _ _ _ _; first | refine ab ?_ | refine aa ?_ | refine ao ?_ | refine aC rfl ?_ | refine aB rfl ?_ | refine ap ?_ | refine aw ?_ | refine aD rfl ?_ | (show V _ _ _ (.code (.region 3 _ true) :: _) _; refine aJ tk mok ⟨false,false,[]⟩ [0,1,2,3,4,5,6,7,8,9,10,11,12,13,14,15,16,17,18,19,20,21,22] rfl (by decide +kernel) rfl ?_) | refine aQ rfl (fun h=>?_) (fun h=>?_)) | (show Do _ _ _ _ _ _ _; first | refine bo rfl ?_ | refine aP ?_ | refine bg fun bk=>?_ | refine bQ rfl rfl rfl rfl rfl rfl rfl rfl rfl rfl rfl rfl ?_ | refine aH ?_ | refine am Tryz.call102 (fu.r) (cN) ?_ | refine am Tryz.call48 (fu.r) (bv _ _) ?_ | refine bT hK hr ?_ | ((fail_if_success refine be rfl rfl ?_); refine bA rfl rfl rfl rfl (fun h=>?_) (fun h=>?_))))
  all_goals try (exfalso; simp_all <;> omega; done)
  case inr.refine_2.refine_1 =>
   refine ff tk (PLe.q ?_)
   rw [iS,zp (.inl (by rw [ha]; simp at h ⊢; omega))]
   rfl
  case inr.refine_2.refine_2.refine_1 =>
   refine ff tk (PLe.q ?_)
   rw [iS,zp (.inr (.inl (by simpa using h)))]
   rfl
  case inr.refine_2.refine_2.refine_2.refine_1 =>
   refine ff tk (PLe.q ?_)
   rw [iS,zp (.inr (.inr (by intro hh; rw [hh] at h; simp [LVal.nul] at h)))]
   rfl
  rename_i h0 h1 h2
  have hlen : e.args.length = ar := by
   simp at h1
   omega
  have hgood : ¬ (bX e.name ≠ some (e.args.map (cR cols vars)).length ∨ e.index ≠ 0 ∨ e.value ≠ .nul) := by
   rw [ha]
   rintro (h3 | h3 | h3)
   ·simp [hlen] at h3
   ·exact h3 (by simpa using h2)
   ·apply h3
    cases hv : e.value
    rw [hv] at h
    simp at h
    simp [LVal.nul,h]
  rw [iS,zy hgood]
  refine eV tk 53 rfl rfl fun hl hby=>?_
  rw [zl] at hl hby
  have hby' : e.args.length * 88 ≤ 2 ^ 47 := hby
  refine kK tk 12 0 12 (e := 3) rfl rfl rfl rfl ?_
  refine fm (X := Nat × OwnRef) (fun X=>⟨164,upd (upd (upd (upd (upd (upd (upd (upd (fun _=>.any) 13 (aL (((e.args.take X.1).map (cR cols vars)).any (·.2.1)))) 12 (.box 12 bk 0)) 5 (.ptr (im e))) 1 (jD vars)) 0 (jD cols)) 53 (pH e.args)) 54 (al (e.args.map dB).length)) 55 (al X.1),upd (fun _=>none) 12 (some ⟨bk,[.own 12 X.2 (((e.args.take X.1).map (cR cols vars)).map fun r=>[al r.1]).length]⟩),upd (fun _=>none) 12 (some ⟨X.2,3,((e.args.take X.1).map (cR cols vars)).map fun r=>[al r.1],true⟩)⟩)
   (fun X=>X.1 ≤ e.args.length ∧ ∀ x ∈ (e.args.map (cR cols vars)).take X.1,(x.2.2 != 0) = false) (fun X=>e.args.length - X.1) (0,⟨none,0⟩) ⟨Nat.zero_le _,by simp⟩ (Gh.le (ay (ay (ay (ay (ay (ay (ay (ay br)))))))) (bC rfl (fu.r) aV) (bI aU)) ?_
  rintro ⟨j,g⟩ ⟨hj,hpre⟩
  replace hj : j ≤ e.args.length := hj
  replace hpre : ∀ x ∈ (e.args.map (cR cols vars)).take j,(x.2.2 != 0) = false := hpre
  repeat (first | refine ak tk rfl ?_ | refine ac ?_ | refine ab ?_ | refine aa ?_ | refine ao ?_ | refine aC rfl ?_ | refine aB rfl ?_ | refine ap ?_ | refine aw ?_ | refine aD rfl ?_ | refine ai tk ?_ | refine au ?_ | refine aF tk ?_ | (refine az tk rfl rfl rfl rfl rfl rfl ?_; intro bk) | refine ag tk ?_)
  refine aQ rfl (fun h=>?_) (fun h=>?_)
  ·have hlt : j < e.args.length := by simpa using h
   have hlt' : j < (e.args.map (cR cols vars)).length := by simpa using hlt
   repeat (first | refine ak tk rfl ?_ | refine ac ?_ | refine ab ?_ | refine aa ?_ | refine ao ?_ | refine aC rfl ?_ | refine aB rfl ?_ | refine ap ?_ | refine aw ?_ | refine aD rfl ?_ | refine ai tk ?_ | refine au ?_ | refine aF tk ?_ | (refine az tk rfl rfl rfl rfl rfl rfl ?_; intro bk) | refine ag tk ?_)
   refine bd tk (zn j) (ro hlt) ?_
   repeat (first | refine ak tk rfl ?_ | refine ac ?_ | refine ab ?_ | refine aa ?_ | refine ao ?_ | refine aC rfl ?_ | refine aB rfl ?_ | refine ap ?_ | refine aw ?_ | refine aD rfl ?_ | refine ai tk ?_ | refine au ?_ | refine aF tk ?_ | (refine az tk rfl rfl rfl rfl rfl rfl ?_; intro bk) | refine ag tk ?_)
   refine ae Tryz.call117 (fu.r) (ih _ (List.getElem_mem hlt)) ?_
   repeat (first | refine ak tk rfl ?_ | refine ac ?_ | refine ab ?_ | refine aa ?_ | refine ao ?_ | refine aC rfl ?_ | refine aB rfl ?_ | refine ap ?_ | refine aw ?_ | refine aD rfl ?_ | refine ai tk ?_ | refine au ?_ | refine aF tk ?_ | (refine az tk rfl rfl rfl rfl rfl rfl ?_; intro bk) | refine ag tk ?_)
   refine aQ rfl (fun h=>?_) (fun h=>?_)
   ·repeat (first | refine ak tk rfl ?_ | refine ac ?_ | refine ab ?_ | refine aa ?_ | refine ao ?_ | refine aC rfl ?_ | refine aB rfl ?_ | refine ap ?_ | refine aw ?_ | refine aD rfl ?_ | refine ai tk ?_ | refine au ?_ | refine aF tk ?_ | (refine az tk rfl rfl rfl rfl rfl rfl ?_; intro bk) | refine ag tk ?_)
    refine ff tk (PLe.q ?_)
    rw [find_at hlt' hpre (by simpa using h),List.getElem_map]
    rfl
   ·repeat (first | refine ak tk rfl ?_ | refine ac ?_ | refine ab ?_ | refine aa ?_ | refine ao ?_ | refine aC rfl ?_ | refine aB rfl ?_ | refine ap ?_ | refine aw ?_ | refine aD rfl ?_ | refine ai tk ?_ | refine au ?_ | refine aF tk ?_ | (refine az tk rfl rfl rfl rfl rfl rfl ?_; intro bk) | refine ag tk ?_)
    refine sn (rows2 := [[al (cR cols vars e.args[j]).1]]) tk rfl rfl rfl rfl rfl rfl rfl rfl rfl rfl rfl rfl rfl ?_ ?_ fun g'=>?_
    ·simp only [zl,List.length_take,List.length_cons,List.length_nil]
     rw [Nat.min_eq_left hj]
     show (j + 1) * 8 ≤ 2 ^ 47
     omega
    ·simp only [zl,List.length_take,List.length_cons,List.length_nil]
     omega
    repeat (first | refine ak tk rfl ?_ | refine ac ?_ | refine ab ?_ | refine aa ?_ | refine ao ?_ | refine aC rfl ?_ | refine aB rfl ?_ | refine ap ?_ | refine aw ?_ | refine aD rfl ?_ | refine ai tk ?_ | refine au ?_ | refine aF tk ?_ | (refine az tk rfl rfl rfl rfl rfl rfl ?_; intro bk) | refine ag tk ?_)
    have hpre' : ∀ x ∈ (e.args.map (cR cols vars)).take (j + 1),(x.2.2 != 0) = false := od (p := fun x : KR=>x.2.2 != 0) hlt' hpre (by rw [List.getElem_map]; exact h)
    have hany := kindAny (cols := cols) (vars := vars) hlt
    refine aZ rfl rfl rfl (fun hn=>?_) (fun hn=>?_)
    ·repeat (first | refine ak tk rfl ?_ | refine ac ?_ | refine ab ?_ | refine aa ?_ | refine ao ?_ | refine aC rfl ?_ | refine aB rfl ?_ | refine ap ?_ | refine aw ?_ | refine aD rfl ?_ | refine ai tk ?_ | refine au ?_ | refine aF tk ?_ | (refine az tk rfl rfl rfl rfl rfl rfl ?_; intro bk) | refine ag tk ?_)
     rw [kindRows hlt]
     refine kj (j + 1,g') ?_ ⟨hlt,hpre'⟩ (Gh.le (bP (PLe.q (eF (by omega))) (ay (ay (ay (ay (ay (ay (bP (PLe.q (by rw [hany,hn]; rfl)) br)))))))) (bC rfl (fu.r) aV) (bI aU))
     show e.args.length - (j + 1) < e.args.length - j
     omega
    ·repeat (first | refine ak tk rfl ?_ | refine ac ?_ | refine ab ?_ | refine aa ?_ | refine ao ?_ | refine aC rfl ?_ | refine aB rfl ?_ | refine ap ?_ | refine aw ?_ | refine aD rfl ?_ | refine ai tk ?_ | refine au ?_ | refine aF tk ?_ | (refine az tk rfl rfl rfl rfl rfl rfl ?_; intro bk) | refine ag tk ?_)
     rw [kindRows hlt]
     refine kj (j + 1,g') ?_ ⟨hlt,hpre'⟩ (Gh.le (bP (PLe.q (eF (by omega))) (ay (ay (ay (ay (ay (ay (bP (PLe.q (by rw [hany,hn]; rfl)) br)))))))) (bC rfl (fu.r) aV) (bI aU))
     show e.args.length - (j + 1) < e.args.length - j
     omega
  have hge : j = e.args.length := by have : ¬ j < e.args.length := by simpa using h
                                     omega
  subst hge
  refine lK 12 0 rfl rfl rfl rfl rfl (tu 12 rfl rfl rfl rfl ?_)
  have hks : (e.args.map (cR cols vars)).find? (fun r=>r.2.2 != 0) = none := by
   rw [List.find?_eq_none]
   intro x hx
   have := hpre x (by rw [List.take_of_length_le (by simp)]; exact hx)
   simp [this]
  rw [hks]
  simp only [List.take_length]
  have hlk : (e.args.map (cR cols vars)).length = ar := by simp [hlen]
  generalize e.args.map (cR cols vars) = KS at hlk
  refine ce (st' := ⟨164,upd (upd (upd (fun _=>.any) 13 (aL (KS.any (·.2.1)))) 12 (.ptr [pints (KS.map (·.1))])) 5 (.ptr [al e.kind,.str e.name,al e.index,al e.value.kind,al e.value.int,.str e.value.text,pH e.args]),fun _=>none,fun _=>none⟩) (Gh.le (ay (bP (PLe.q (show PV.ptr [.list 3 (KS.map fun r=>[al r.1])] = _ from by simp)) (ay br))) aV aU) ?_
  replace hlk : (KS.map (·.1)).length = ar := by simpa using hlk
  generalize KS.map (·.1) = kinds at hlk
  generalize KS.any (·.2.1) = nl
  generalize e.name = name at ha
  clear hpre hks hgood h0 h1 h2 h hr hK ih hlen
  by_cases hn : name ∈ dd
  ·simp only [dd,List.mem_cons,List.mem_nil_iff,or_false] at hn
   rcases hn with rfl | rfl | rfl | rfl | rfl | rfl | rfl | rfl | rfl | rfl | rfl | rfl | rfl
   ·have har : ar = 2 := by have : some 2 = some ar := ha; exact (Option.some.inj this).symm
    subst har
    obtain ⟨a,b,rfl⟩ := ix hlk
    repeat' (first | (show Ao _ _ _ _ _; first | refine ak tk rfl ?_ | refine ac ?_ | refine ai tk ?_ | refine au ?_ | refine aF tk ?_ | (refine az tk rfl rfl rfl rfl rfl rfl ?_; intro bk) | refine ag tk ?_ | refine ae Tryz.call131 (fu.r) (co _ _) ?_ | refine ae Tryz.call134 (fu.r) (cq _ _) ?_ | refine ae Tryz.call135 (fu.r) (cf _ _ _) ?_ | ((fail_if_success refine aR rfl ?_); refine aZ rfl rfl rfl (fun h=>?_) (fun h=>?_))) | (show V _ _ _ _ _; first | refine ab ?_ | refine aa ?_ | refine ao ?_ | refine aC rfl ?_ | refine aB rfl ?_ | refine ap ?_ | refine aw ?_ | refine aD rfl ?_ | (show V _ _ _ (.code (.region 33 _ true) :: _) _; refine aJ tk mok ⟨false,false,[]⟩ [0,1,2,3,4,5,6,7,8,9,10,11,12,13,14,15,16,17,18,19,20,21,22,23,24,25,26,27,28,29] rfl (by decide +kernel) rfl ?_) | (show V _ _ _ (.code (.region 34 _ true) :: _) _; refine aJ tk mok ⟨false,false,[]⟩ [0,1,2,3,4,5,6,7,8,9,10,11,12,13,14,15] rfl (by decide +kernel) rfl ?_) | refine aQ rfl (fun h=>?_) (fun h=>?_)) | (show Do _ _ _ _ _ _ _; first | refine bo rfl ?_ | refine aP ?_ | refine bg fun bk=>?_ | refine bQ rfl rfl rfl rfl rfl rfl rfl rfl rfl rfl rfl rfl ?_ | refine aH ?_ | refine am Tryz.call131 (fu.r) (co _ _) ?_ | refine am Tryz.call134 (fu.r) (cq _ _) ?_ | refine am Tryz.call135 (fu.r) (cf _ _ _) ?_ | ((fail_if_success refine be rfl rfl ?_); refine bA rfl rfl rfl rfl (fun h=>?_) (fun h=>?_))))
    all_goals refine ff tk (PLe.q ?_)
    all_goals simp_all [dU]
   ·have har : ar = 2 := by have : some 2 = some ar := ha; exact (Option.some.inj this).symm
    subst har
    obtain ⟨a,b,rfl⟩ := ix hlk
    repeat' (first | (show Ao _ _ _ _ _; first | refine ak tk rfl ?_ | refine ac ?_ | refine ai tk ?_ | refine au ?_ | refine aF tk ?_ | (refine az tk rfl rfl rfl rfl rfl rfl ?_; intro bk) | refine ag tk ?_ | refine ae Tryz.call131 (fu.r) (co _ _) ?_ | refine ae Tryz.call134 (fu.r) (cq _ _) ?_ | refine ae Tryz.call135 (fu.r) (cf _ _ _) ?_ | ((fail_if_success refine aR rfl ?_); refine aZ rfl rfl rfl (fun h=>?_) (fun h=>?_))) | (show V _ _ _ _ _; first | refine ab ?_ | refine aa ?_ | refine ao ?_ | refine aC rfl ?_ | refine aB rfl ?_ | refine ap ?_ | refine aw ?_ | refine aD rfl ?_ | (show V _ _ _ (.code (.region 33 _ true) :: _) _; refine aJ tk mok ⟨false,false,[]⟩ [0,1,2,3,4,5,6,7,8,9,10,11,12,13,14,15,16,17,18,19,20,21,22,23,24,25,26,27,28,29] rfl (by decide +kernel) rfl ?_) | (show V _ _ _ (.code (.region 34 _ true) :: _) _; refine aJ tk mok ⟨false,false,[]⟩ [0,1,2,3,4,5,6,7,8,9,10,11,12,13,14,15] rfl (by decide +kernel) rfl ?_) | refine aQ rfl (fun h=>?_) (fun h=>?_)) | (show Do _ _ _ _ _ _ _; first | refine bo rfl ?_ | refine aP ?_ | refine bg fun bk=>?_ | refine bQ rfl rfl rfl rfl rfl rfl rfl rfl rfl rfl rfl rfl ?_ | refine aH ?_ | refine am Tryz.call131 (fu.r) (co _ _) ?_ | refine am Tryz.call134 (fu.r) (cq _ _) ?_ | refine am Tryz.call135 (fu.r) (cf _ _ _) ?_ | ((fail_if_success refine be rfl rfl ?_); refine bA rfl rfl rfl rfl (fun h=>?_) (fun h=>?_))))
    all_goals refine ff tk (PLe.q ?_)
    all_goals simp_all [dU]
   ·have har : ar = 2 := by have : some 2 = some ar := ha; exact (Option.some.inj this).symm
    subst har
    obtain ⟨a,b,rfl⟩ := ix hlk
    repeat' (first | (show Ao _ _ _ _ _; first | refine ak tk rfl ?_ | refine ac ?_ | refine ai tk ?_ | refine au ?_ | refine aF tk ?_ | (refine az tk rfl rfl rfl rfl rfl rfl ?_; intro bk) | refine ag tk ?_ | refine ae Tryz.call131 (fu.r) (co _ _) ?_ | refine ae Tryz.call134 (fu.r) (cq _ _) ?_ | refine ae Tryz.call135 (fu.r) (cf _ _ _) ?_ | ((fail_if_success refine aR rfl ?_); refine aZ rfl rfl rfl (fun h=>?_) (fun h=>?_))) | (show V _ _ _ _ _; first | refine ab ?_ | refine aa ?_ | refine ao ?_ | refine aC rfl ?_ | refine aB rfl ?_ | refine ap ?_ | refine aw ?_ | refine aD rfl ?_ | (show V _ _ _ (.code (.region 33 _ true) :: _) _; refine aJ tk mok ⟨false,false,[]⟩ [0,1,2,3,4,5,6,7,8,9,10,11,12,13,14,15,16,17,18,19,20,21,22,23,24,25,26,27,28,29] rfl (by decide +kernel) rfl ?_) | (show V _ _ _ (.code (.region 34 _ true) :: _) _; refine aJ tk mok ⟨false,false,[]⟩ [0,1,2,3,4,5,6,7,8,9,10,11,12,13,14,15] rfl (by decide +kernel) rfl ?_) | refine aQ rfl (fun h=>?_) (fun h=>?_)) | (show Do _ _ _ _ _ _ _; first | refine bo rfl ?_ | refine aP ?_ | refine bg fun bk=>?_ | refine bQ rfl rfl rfl rfl rfl rfl rfl rfl rfl rfl rfl rfl ?_ | refine aH ?_ | refine am Tryz.call131 (fu.r) (co _ _) ?_ | refine am Tryz.call134 (fu.r) (cq _ _) ?_ | refine am Tryz.call135 (fu.r) (cf _ _ _) ?_ | ((fail_if_success refine be rfl rfl ?_); refine bA rfl rfl rfl rfl (fun h=>?_) (fun h=>?_))))
    all_goals refine ff tk (PLe.q ?_)
    all_goals simp_all [dU]
   ·have har : ar = 2 := by have : some 2 = some ar := ha; exact (Option.some.inj this).symm
    subst har
    obtain ⟨a,b,rfl⟩ := ix hlk
    repeat' (first | (show Ao _ _ _ _ _; first | refine ak tk rfl ?_ | refine ac ?_ | refine ai tk ?_ | refine au ?_ | refine aF tk ?_ | (refine az tk rfl rfl rfl rfl rfl rfl ?_; intro bk) | refine ag tk ?_ | refine ae Tryz.call131 (fu.r) (co _ _) ?_ | refine ae Tryz.call134 (fu.r) (cq _ _) ?_ | refine ae Tryz.call135 (fu.r) (cf _ _ _) ?_ | ((fail_if_success refine aR rfl ?_); refine aZ rfl rfl rfl (fun h=>?_) (fun h=>?_))) | (show V _ _ _ _ _; first | refine ab ?_ | refine aa ?_ | refine ao ?_ | refine aC rfl ?_ | refine aB rfl ?_ | refine ap ?_ | refine aw ?_ | refine aD rfl ?_ | (show V _ _ _ (.code (.region 33 _ true) :: _) _; refine aJ tk mok ⟨false,false,[]⟩ [0,1,2,3,4,5,6,7,8,9,10,11,12,13,14,15,16,17,18,19,20,21,22,23,24,25,26,27,28,29] rfl (by decide +kernel) rfl ?_) | (show V _ _ _ (.code (.region 34 _ true) :: _) _; refine aJ tk mok ⟨false,false,[]⟩ [0,1,2,3,4,5,6,7,8,9,10,11,12,13,14,15] rfl (by decide +kernel) rfl ?_) | refine aQ rfl (fun h=>?_) (fun h=>?_)) | (show Do _ _ _ _ _ _ _; first | refine bo rfl ?_ | refine aP ?_ | refine bg fun bk=>?_ | refine bQ rfl rfl rfl rfl rfl rfl rfl rfl rfl rfl rfl rfl ?_ | refine aH ?_ | refine am Tryz.call131 (fu.r) (co _ _) ?_ | refine am Tryz.call134 (fu.r) (cq _ _) ?_ | refine am Tryz.call135 (fu.r) (cf _ _ _) ?_ | ((fail_if_success refine be rfl rfl ?_); refine bA rfl rfl rfl rfl (fun h=>?_) (fun h=>?_))))
    all_goals refine ff tk (PLe.q ?_)
    all_goals simp_all [dU]
   ·have har : ar = 2 := by have : some 2 = some ar := ha; exact (Option.some.inj this).symm
    subst har
    obtain ⟨a,b,rfl⟩ := ix hlk
    repeat' (first | (show Ao _ _ _ _ _; first | refine ak tk rfl ?_ | refine ac ?_ | refine ai tk ?_ | refine au ?_ | refine aF tk ?_ | (refine az tk rfl rfl rfl rfl rfl rfl ?_; intro bk) | refine ag tk ?_ | refine ae Tryz.call131 (fu.r) (co _ _) ?_ | refine ae Tryz.call134 (fu.r) (cq _ _) ?_ | refine ae Tryz.call135 (fu.r) (cf _ _ _) ?_ | ((fail_if_success refine aR rfl ?_); refine aZ rfl rfl rfl (fun h=>?_) (fun h=>?_))) | (show V _ _ _ _ _; first | refine ab ?_ | refine aa ?_ | refine ao ?_ | refine aC rfl ?_ | refine aB rfl ?_ | refine ap ?_ | refine aw ?_ | refine aD rfl ?_ | (show V _ _ _ (.code (.region 33 _ true) :: _) _; refine aJ tk mok ⟨false,false,[]⟩ [0,1,2,3,4,5,6,7,8,9,10,11,12,13,14,15,16,17,18,19,20,21,22,23,24,25,26,27,28,29] rfl (by decide +kernel) rfl ?_) | (show V _ _ _ (.code (.region 34 _ true) :: _) _; refine aJ tk mok ⟨false,false,[]⟩ [0,1,2,3,4,5,6,7,8,9,10,11,12,13,14,15] rfl (by decide +kernel) rfl ?_) | refine aQ rfl (fun h=>?_) (fun h=>?_)) | (show Do _ _ _ _ _ _ _; first | refine bo rfl ?_ | refine aP ?_ | refine bg fun bk=>?_ | refine bQ rfl rfl rfl rfl rfl rfl rfl rfl rfl rfl rfl rfl ?_ | refine aH ?_ | refine am Tryz.call131 (fu.r) (co _ _) ?_ | refine am Tryz.call134 (fu.r) (cq _ _) ?_ | refine am Tryz.call135 (fu.r) (cf _ _ _) ?_ | ((fail_if_success refine be rfl rfl ?_); refine bA rfl rfl rfl rfl (fun h=>?_) (fun h=>?_))))
    all_goals refine ff tk (PLe.q ?_)
    all_goals simp_all [dU]
   ·have har : ar = 2 := by have : some 2 = some ar := ha; exact (Option.some.inj this).symm
    subst har
    obtain ⟨a,b,rfl⟩ := ix hlk
    repeat' (first | (show Ao _ _ _ _ _; first | refine ak tk rfl ?_ | refine ac ?_ | refine ai tk ?_ | refine au ?_ | refine aF tk ?_ | (refine az tk rfl rfl rfl rfl rfl rfl ?_; intro bk) | refine ag tk ?_ | refine ae Tryz.call131 (fu.r) (co _ _) ?_ | refine ae Tryz.call134 (fu.r) (cq _ _) ?_ | refine ae Tryz.call135 (fu.r) (cf _ _ _) ?_ | ((fail_if_success refine aR rfl ?_); refine aZ rfl rfl rfl (fun h=>?_) (fun h=>?_))) | (show V _ _ _ _ _; first | refine ab ?_ | refine aa ?_ | refine ao ?_ | refine aC rfl ?_ | refine aB rfl ?_ | refine ap ?_ | refine aw ?_ | refine aD rfl ?_ | (show V _ _ _ (.code (.region 33 _ true) :: _) _; refine aJ tk mok ⟨false,false,[]⟩ [0,1,2,3,4,5,6,7,8,9,10,11,12,13,14,15,16,17,18,19,20,21,22,23,24,25,26,27,28,29] rfl (by decide +kernel) rfl ?_) | (show V _ _ _ (.code (.region 34 _ true) :: _) _; refine aJ tk mok ⟨false,false,[]⟩ [0,1,2,3,4,5,6,7,8,9,10,11,12,13,14,15] rfl (by decide +kernel) rfl ?_) | refine aQ rfl (fun h=>?_) (fun h=>?_)) | (show Do _ _ _ _ _ _ _; first | refine bo rfl ?_ | refine aP ?_ | refine bg fun bk=>?_ | refine bQ rfl rfl rfl rfl rfl rfl rfl rfl rfl rfl rfl rfl ?_ | refine aH ?_ | refine am Tryz.call131 (fu.r) (co _ _) ?_ | refine am Tryz.call134 (fu.r) (cq _ _) ?_ | refine am Tryz.call135 (fu.r) (cf _ _ _) ?_ | ((fail_if_success refine be rfl rfl ?_); refine bA rfl rfl rfl rfl (fun h=>?_) (fun h=>?_))))
    all_goals refine ff tk (PLe.q ?_)
    all_goals simp_all [dU]
   ·have har : ar = 2 := by have : some 2 = some ar := ha; exact (Option.some.inj this).symm
    subst har
    obtain ⟨a,b,rfl⟩ := ix hlk
    repeat' (first | (show Ao _ _ _ _ _; first | refine ak tk rfl ?_ | refine ac ?_ | refine ai tk ?_ | refine au ?_ | refine aF tk ?_ | (refine az tk rfl rfl rfl rfl rfl rfl ?_; intro bk) | refine ag tk ?_ | refine ae Tryz.call131 (fu.r) (co _ _) ?_ | refine ae Tryz.call134 (fu.r) (cq _ _) ?_ | refine ae Tryz.call135 (fu.r) (cf _ _ _) ?_ | ((fail_if_success refine aR rfl ?_); refine aZ rfl rfl rfl (fun h=>?_) (fun h=>?_))) | (show V _ _ _ _ _; first | refine ab ?_ | refine aa ?_ | refine ao ?_ | refine aC rfl ?_ | refine aB rfl ?_ | refine ap ?_ | refine aw ?_ | refine aD rfl ?_ | (show V _ _ _ (.code (.region 33 _ true) :: _) _; refine aJ tk mok ⟨false,false,[]⟩ [0,1,2,3,4,5,6,7,8,9,10,11,12,13,14,15,16,17,18,19,20,21,22,23,24,25,26,27,28,29] rfl (by decide +kernel) rfl ?_) | (show V _ _ _ (.code (.region 34 _ true) :: _) _; refine aJ tk mok ⟨false,false,[]⟩ [0,1,2,3,4,5,6,7,8,9,10,11,12,13,14,15] rfl (by decide +kernel) rfl ?_) | refine aQ rfl (fun h=>?_) (fun h=>?_)) | (show Do _ _ _ _ _ _ _; first | refine bo rfl ?_ | refine aP ?_ | refine bg fun bk=>?_ | refine bQ rfl rfl rfl rfl rfl rfl rfl rfl rfl rfl rfl rfl ?_ | refine aH ?_ | refine am Tryz.call131 (fu.r) (co _ _) ?_ | refine am Tryz.call134 (fu.r) (cq _ _) ?_ | refine am Tryz.call135 (fu.r) (cf _ _ _) ?_ | ((fail_if_success refine be rfl rfl ?_); refine bA rfl rfl rfl rfl (fun h=>?_) (fun h=>?_))))
    all_goals refine ff tk (PLe.q ?_)
    all_goals simp_all [dU]
   ·have har : ar = 2 := by have : some 2 = some ar := ha; exact (Option.some.inj this).symm
    subst har
    obtain ⟨a,b,rfl⟩ := ix hlk
    repeat' (first | (show Ao _ _ _ _ _; first | refine ak tk rfl ?_ | refine ac ?_ | refine ai tk ?_ | refine au ?_ | refine aF tk ?_ | (refine az tk rfl rfl rfl rfl rfl rfl ?_; intro bk) | refine ag tk ?_ | refine ae Tryz.call131 (fu.r) (co _ _) ?_ | refine ae Tryz.call134 (fu.r) (cq _ _) ?_ | refine ae Tryz.call135 (fu.r) (cf _ _ _) ?_ | ((fail_if_success refine aR rfl ?_); refine aZ rfl rfl rfl (fun h=>?_) (fun h=>?_))) | (show V _ _ _ _ _; first | refine ab ?_ | refine aa ?_ | refine ao ?_ | refine aC rfl ?_ | refine aB rfl ?_ | refine ap ?_ | refine aw ?_ | refine aD rfl ?_ | (show V _ _ _ (.code (.region 33 _ true) :: _) _; refine aJ tk mok ⟨false,false,[]⟩ [0,1,2,3,4,5,6,7,8,9,10,11,12,13,14,15,16,17,18,19,20,21,22,23,24,25,26,27,28,29] rfl (by decide +kernel) rfl ?_) | (show V _ _ _ (.code (.region 34 _ true) :: _) _; refine aJ tk mok ⟨false,false,[]⟩ [0,1,2,3,4,5,6,7,8,9,10,11,12,13,14,15] rfl (by decide +kernel) rfl ?_) | refine aQ rfl (fun h=>?_) (fun h=>?_)) | (show Do _ _ _ _ _ _ _; first | refine bo rfl ?_ | refine aP ?_ | refine bg fun bk=>?_ | refine bQ rfl rfl rfl rfl rfl rfl rfl rfl rfl rfl rfl rfl ?_ | refine aH ?_ | refine am Tryz.call131 (fu.r) (co _ _) ?_ | refine am Tryz.call134 (fu.r) (cq _ _) ?_ | refine am Tryz.call135 (fu.r) (cf _ _ _) ?_ | ((fail_if_success refine be rfl rfl ?_); refine bA rfl rfl rfl rfl (fun h=>?_) (fun h=>?_))))
    all_goals refine ff tk (PLe.q ?_)
    all_goals simp_all [dU]
   ·have har : ar = 1 := by have : some 1 = some ar := ha; exact (Option.some.inj this).symm
    subst har
    obtain ⟨a,rfl⟩ := List.length_eq_one_iff.1 hlk
    repeat' (first | (show Ao _ _ _ _ _; first | refine ak tk rfl ?_ | refine ac ?_ | refine ai tk ?_ | refine au ?_ | refine aF tk ?_ | (refine az tk rfl rfl rfl rfl rfl rfl ?_; intro bk) | refine ag tk ?_ | refine ae Tryz.call131 (fu.r) (co _ _) ?_ | refine ae Tryz.call134 (fu.r) (cq _ _) ?_ | refine ae Tryz.call135 (fu.r) (cf _ _ _) ?_ | ((fail_if_success refine aR rfl ?_); refine aZ rfl rfl rfl (fun h=>?_) (fun h=>?_))) | (show V _ _ _ _ _; first | refine ab ?_ | refine aa ?_ | refine ao ?_ | refine aC rfl ?_ | refine aB rfl ?_ | refine ap ?_ | refine aw ?_ | refine aD rfl ?_ | (show V _ _ _ (.code (.region 33 _ true) :: _) _; refine aJ tk mok ⟨false,false,[]⟩ [0,1,2,3,4,5,6,7,8,9,10,11,12,13,14,15,16,17,18,19,20,21,22,23,24,25,26,27,28,29] rfl (by decide +kernel) rfl ?_) | (show V _ _ _ (.code (.region 34 _ true) :: _) _; refine aJ tk mok ⟨false,false,[]⟩ [0,1,2,3,4,5,6,7,8,9,10,11,12,13,14,15] rfl (by decide +kernel) rfl ?_) | refine aQ rfl (fun h=>?_) (fun h=>?_)) | (show Do _ _ _ _ _ _ _; first | refine bo rfl ?_ | refine aP ?_ | refine bg fun bk=>?_ | refine bQ rfl rfl rfl rfl rfl rfl rfl rfl rfl rfl rfl rfl ?_ | refine aH ?_ | refine am Tryz.call131 (fu.r) (co _ _) ?_ | refine am Tryz.call134 (fu.r) (cq _ _) ?_ | refine am Tryz.call135 (fu.r) (cf _ _ _) ?_ | ((fail_if_success refine be rfl rfl ?_); refine bA rfl rfl rfl rfl (fun h=>?_) (fun h=>?_))))
    all_goals refine ff tk (PLe.q ?_)
    all_goals simp_all [dU]
   ·have har : ar = 2 := by have : some 2 = some ar := ha; exact (Option.some.inj this).symm
    subst har
    obtain ⟨a,b,rfl⟩ := ix hlk
    repeat' (first | (show Ao _ _ _ _ _; first | refine ak tk rfl ?_ | refine ac ?_ | refine ai tk ?_ | refine au ?_ | refine aF tk ?_ | (refine az tk rfl rfl rfl rfl rfl rfl ?_; intro bk) | refine ag tk ?_ | refine ae Tryz.call131 (fu.r) (co _ _) ?_ | refine ae Tryz.call134 (fu.r) (cq _ _) ?_ | refine ae Tryz.call135 (fu.r) (cf _ _ _) ?_ | ((fail_if_success refine aR rfl ?_); refine aZ rfl rfl rfl (fun h=>?_) (fun h=>?_))) | (show V _ _ _ _ _; first | refine ab ?_ | refine aa ?_ | refine ao ?_ | refine aC rfl ?_ | refine aB rfl ?_ | refine ap ?_ | refine aw ?_ | refine aD rfl ?_ | (show V _ _ _ (.code (.region 33 _ true) :: _) _; refine aJ tk mok ⟨false,false,[]⟩ [0,1,2,3,4,5,6,7,8,9,10,11,12,13,14,15,16,17,18,19,20,21,22,23,24,25,26,27,28,29] rfl (by decide +kernel) rfl ?_) | (show V _ _ _ (.code (.region 34 _ true) :: _) _; refine aJ tk mok ⟨false,false,[]⟩ [0,1,2,3,4,5,6,7,8,9,10,11,12,13,14,15] rfl (by decide +kernel) rfl ?_) | refine aQ rfl (fun h=>?_) (fun h=>?_)) | (show Do _ _ _ _ _ _ _; first | refine bo rfl ?_ | refine aP ?_ | refine bg fun bk=>?_ | refine bQ rfl rfl rfl rfl rfl rfl rfl rfl rfl rfl rfl rfl ?_ | refine aH ?_ | refine am Tryz.call131 (fu.r) (co _ _) ?_ | refine am Tryz.call134 (fu.r) (cq _ _) ?_ | refine am Tryz.call135 (fu.r) (cf _ _ _) ?_ | ((fail_if_success refine be rfl rfl ?_); refine bA rfl rfl rfl rfl (fun h=>?_) (fun h=>?_))))
    all_goals refine ff tk (PLe.q ?_)
    all_goals simp_all [dU]
   ·have har : ar = 1 := by have : some 1 = some ar := ha; exact (Option.some.inj this).symm
    subst har
    obtain ⟨a,rfl⟩ := List.length_eq_one_iff.1 hlk
    repeat' (first | (show Ao _ _ _ _ _; first | refine ak tk rfl ?_ | refine ac ?_ | refine ai tk ?_ | refine au ?_ | refine aF tk ?_ | (refine az tk rfl rfl rfl rfl rfl rfl ?_; intro bk) | refine ag tk ?_ | refine ae Tryz.call131 (fu.r) (co _ _) ?_ | refine ae Tryz.call134 (fu.r) (cq _ _) ?_ | refine ae Tryz.call135 (fu.r) (cf _ _ _) ?_ | ((fail_if_success refine aR rfl ?_); refine aZ rfl rfl rfl (fun h=>?_) (fun h=>?_))) | (show V _ _ _ _ _; first | refine ab ?_ | refine aa ?_ | refine ao ?_ | refine aC rfl ?_ | refine aB rfl ?_ | refine ap ?_ | refine aw ?_ | refine aD rfl ?_ | (show V _ _ _ (.code (.region 33 _ true) :: _) _; refine aJ tk mok ⟨false,false,[]⟩ [0,1,2,3,4,5,6,7,8,9,10,11,12,13,14,15,16,17,18,19,20,21,22,23,24,25,26,27,28,29] rfl (by decide +kernel) rfl ?_) | (show V _ _ _ (.code (.region 34 _ true) :: _) _; refine aJ tk mok ⟨false,false,[]⟩ [0,1,2,3,4,5,6,7,8,9,10,11,12,13,14,15] rfl (by decide +kernel) rfl ?_) | refine aQ rfl (fun h=>?_) (fun h=>?_)) | (show Do _ _ _ _ _ _ _; first | refine bo rfl ?_ | refine aP ?_ | refine bg fun bk=>?_ | refine bQ rfl rfl rfl rfl rfl rfl rfl rfl rfl rfl rfl rfl ?_ | refine aH ?_ | refine am Tryz.call131 (fu.r) (co _ _) ?_ | refine am Tryz.call134 (fu.r) (cq _ _) ?_ | refine am Tryz.call135 (fu.r) (cf _ _ _) ?_ | ((fail_if_success refine be rfl rfl ?_); refine bA rfl rfl rfl rfl (fun h=>?_) (fun h=>?_))))
    all_goals refine ff tk (PLe.q ?_)
    all_goals simp_all [dU]
   ·have har : ar = 1 := by have : some 1 = some ar := ha; exact (Option.some.inj this).symm
    subst har
    obtain ⟨a,rfl⟩ := List.length_eq_one_iff.1 hlk
    repeat' (first | (show Ao _ _ _ _ _; first | refine ak tk rfl ?_ | refine ac ?_ | refine ai tk ?_ | refine au ?_ | refine aF tk ?_ | (refine az tk rfl rfl rfl rfl rfl rfl ?_; intro bk) | refine ag tk ?_ | refine ae Tryz.call131 (fu.r) (co _ _) ?_ | refine ae Tryz.call134 (fu.r) (cq _ _) ?_ | refine ae Tryz.call135 (fu.r) (cf _ _ _) ?_ | ((fail_if_success refine aR rfl ?_); refine aZ rfl rfl rfl (fun h=>?_) (fun h=>?_))) | (show V _ _ _ _ _; first | refine ab ?_ | refine aa ?_ | refine ao ?_ | refine aC rfl ?_ | refine aB rfl ?_ | refine ap ?_ | refine aw ?_ | refine aD rfl ?_ | (show V _ _ _ (.code (.region 33 _ true) :: _) _; refine aJ tk mok ⟨false,false,[]⟩ [0,1,2,3,4,5,6,7,8,9,10,11,12,13,14,15,16,17,18,19,20,21,22,23,24,25,26,27,28,29] rfl (by decide +kernel) rfl ?_) | (show V _ _ _ (.code (.region 34 _ true) :: _) _; refine aJ tk mok ⟨false,false,[]⟩ [0,1,2,3,4,5,6,7,8,9,10,11,12,13,14,15] rfl (by decide +kernel) rfl ?_) | refine aQ rfl (fun h=>?_) (fun h=>?_)) | (show Do _ _ _ _ _ _ _; first | refine bo rfl ?_ | refine aP ?_ | refine bg fun bk=>?_ | refine bQ rfl rfl rfl rfl rfl rfl rfl rfl rfl rfl rfl rfl ?_ | refine aH ?_ | refine am Tryz.call131 (fu.r) (co _ _) ?_ | refine am Tryz.call134 (fu.r) (cq _ _) ?_ | refine am Tryz.call135 (fu.r) (cf _ _ _) ?_ | ((fail_if_success refine be rfl rfl ?_); refine bA rfl rfl rfl rfl (fun h=>?_) (fun h=>?_))))
    all_goals refine ff tk (PLe.q ?_)
    all_goals simp_all [dU]
   ·have har : ar = 3 := by have : some 3 = some ar := ha; exact (Option.some.inj this).symm
    subst har
    obtain ⟨a,b,c,rfl⟩ := len3 hlk
    repeat' (first | (show Ao _ _ _ _ _; first | refine ak tk rfl ?_ | refine ac ?_ | refine ai tk ?_ | refine au ?_ | refine aF tk ?_ | (refine az tk rfl rfl rfl rfl rfl rfl ?_; intro bk) | refine ag tk ?_ | refine ae Tryz.call131 (fu.r) (co _ _) ?_ | refine ae Tryz.call134 (fu.r) (cq _ _) ?_ | refine ae Tryz.call135 (fu.r) (cf _ _ _) ?_ | ((fail_if_success refine aR rfl ?_); refine aZ rfl rfl rfl (fun h=>?_) (fun h=>?_))) | (show V _ _ _ _ _; first | refine ab ?_ | refine aa ?_ | refine ao ?_ | refine aC rfl ?_ | refine aB rfl ?_ | refine ap ?_ | refine aw ?_ | refine aD rfl ?_ | (show V _ _ _ (.code (.region 33 _ true) :: _) _; refine aJ tk mok ⟨false,false,[]⟩ [0,1,2,3,4,5,6,7,8,9,10,11,12,13,14,15,16,17,18,19,20,21,22,23,24,25,26,27,28,29] rfl (by decide +kernel) rfl ?_) | (show V _ _ _ (.code (.region 34 _ true) :: _) _; refine aJ tk mok ⟨false,false,[]⟩ [0,1,2,3,4,5,6,7,8,9,10,11,12,13,14,15] rfl (by decide +kernel) rfl ?_) | refine aQ rfl (fun h=>?_) (fun h=>?_)) | (show Do _ _ _ _ _ _ _; first | refine bo rfl ?_ | refine aP ?_ | refine bg fun bk=>?_ | refine bQ rfl rfl rfl rfl rfl rfl rfl rfl rfl rfl rfl rfl ?_ | refine aH ?_ | refine am Tryz.call131 (fu.r) (co _ _) ?_ | refine am Tryz.call134 (fu.r) (cq _ _) ?_ | refine am Tryz.call135 (fu.r) (cf _ _ _) ?_ | ((fail_if_success refine be rfl rfl ?_); refine bA rfl rfl rfl rfl (fun h=>?_) (fun h=>?_))))
    all_goals refine ff tk (PLe.q ?_)
    all_goals simp_all [dU]
  ·simp only [dd,List.mem_cons,List.mem_nil_iff,or_false,not_or] at hn
   simp [bX,hn] at ha
theorem pM (cols vars : List LCol) (e : LExpr) : cR cols vars e =
  if e.kind ≠ 5 ∧ 0 < e.args.length then fw 3
  else if e.kind == 1 then (if dW e.value && e.name == [] && e.index == 0 then (e.value.kind,e.value.kind == 0,0) else fw 3)
  else if e.kind == 3 then (if e.index < 0 ∨ e.index ≥ 8 ∨ e.name ≠ [] ∨ e.value.kind < 1 ∨ e.value.kind > 3 ∨ e.value ≠ ⟨e.value.kind,0,[]⟩ then fw 3 else (e.value.kind,true,0))
  else if e.kind == 2 || e.kind == 4 then
   (if cY e.name && e.index == 0 && decide (e.value = .nul) then
    (if (kn (if e.kind == 4 then vars else cols) e.name).2 then ((kn (if e.kind == 4 then vars else cols) e.name).1.kind,(kn (if e.kind == 4 then vars else cols) e.name).1.nullable,0) else fw 23)
    else fw 3)
  else if e.kind == 5 then iS e.name e.index e.value (e.args.map (cR cols vars))
  else fw 3 := by
 cases e
 rw [cR,pR]
 rfl
theorem valNul_iff (x : LVal) : x = .nul ↔ x.kind = 0 ∧ x.int = 0 ∧ x.text = [] := by
 cases x
 simp [LVal.nul]
theorem valK_iff (x : LVal) : x = ⟨x.kind,0,[]⟩ ↔ x.int = 0 ∧ x.text = [] := by
 cases x
 simp
theorem kindStep (cols vars : List LCol) (e : LExpr) (ih : ∀ a ∈ e.args,aT Tryz.prog 117 [jD cols,jD vars,jt a] (pkr (cR cols vars a))) :
  aT Tryz.prog 117 [jD cols,jD vars,jt e] (pkr (cR cols vars e)) := by
 refine PH.ax Tryz.func117 Tryz.ntmps117 ?_
 repeat' (first | (show Ao _ _ _ _ _; first | refine ak tk rfl ?_ | refine ac ?_ | refine ai tk ?_ | refine au ?_ | refine aF tk ?_ | (refine az tk rfl rfl rfl rfl rfl rfl ?_; intro bk) | refine ag tk ?_ | refine ae Tryz.call30 (fu.r) (pi _) ?_ | refine ae Tryz.call114 (fu.r) (kq _) ?_ | refine ae Tryz.call127 (fu.r) (find_spec _ _) ?_ | refine ae Tryz.call128 (fu.r) (sd cols vars e ih) ?_ | ((fail_if_success refine aR rfl ?_); refine aZ rfl rfl rfl (fun h=>?_) (fun h=>?_))) | (show V _ _ _ _ _; first | refine ab ?_ | refine aa ?_ | refine ao ?_ | refine aC rfl ?_ | refine aB rfl ?_ | refine ap ?_ | refine aw ?_ | refine aD rfl ?_ | (show V _ _ _ (.code (.region 7 _ true) :: _) _; refine aJ tk mok ⟨true,false,[]⟩ [0,1,2,3,4,5,6,7,8,9] rfl (by decide +kernel) rfl ?_) | (show V _ _ _ (.code (.region 22 _ true) :: _) _; refine aJ tk mok ⟨true,false,[]⟩ [0,1,2,3,4,5,6] rfl (by decide +kernel) rfl ?_) | refine aQ rfl (fun h=>?_) (fun h=>?_)) | (show Do _ _ _ _ _ _ _; first | refine bo rfl ?_ | refine aP ?_ | refine bg fun bk=>?_ | refine bQ rfl rfl rfl rfl rfl rfl rfl rfl rfl rfl rfl rfl ?_ | refine aH ?_ | refine am Tryz.call30 (fu.r) (pi _) ?_ | refine am Tryz.call114 (fu.r) (kq _) ?_ | refine am Tryz.call127 (fu.r) (find_spec _ _) ?_ | refine am Tryz.call128 (fu.r) (sd cols vars e ih) ?_ | ((fail_if_success refine be rfl rfl ?_); refine bA rfl rfl rfl rfl (fun h=>?_) (fun h=>?_))))
 all_goals refine ff tk (PLe.q ?_)
 all_goals rw [pM]
 all_goals (simp only [zl,Bool.not_eq_true',decide_eq_true_eq,decide_eq_false_iff_not,bne_iff_ne,beq_iff_eq,ne_eq,beq_eq_false_iff_ne,bne_eq_false_iff_eq] at *)
 all_goals try simp_all [fw,valNul_iff,valK_iff]
 all_goals (rw [zy (by first | omega | (rintro ⟨q1,q2,q3⟩; exact h q1 q2 q3))]; exact ⟨rfl,rfl,rfl⟩)
theorem qN (cols vars : List LCol) : ∀ e : LExpr,aT Tryz.prog 117 [jD cols,jD vars,jt e] (pkr (cR cols vars e))
 | .mk k n i x args=>kindStep cols vars (.mk k n i x args) fun a ha=>by
  have ha' : a ∈ args := ha
  exact qN cols vars a
def cE (cols vars : List LCol) (e : LExpr) : KR := if (iN e).1 > 60 ∨ (iN e).2 > 12 then fw 2 else cR cols vars e
theorem mG (cols vars : List LCol) (e : LExpr) : aT Tryz.prog 100 [jD cols,jD vars,jt e] (pkr (cE cols vars e)) := by
 refine PH.ax Tryz.func100 Tryz.ntmps100 ?_
 repeat' (first | (show Ao _ _ _ _ _; first | refine ak tk rfl ?_ | refine ac ?_ | refine ai tk ?_ | refine au ?_ | refine aF tk ?_ | (refine az tk rfl rfl rfl rfl rfl rfl ?_; intro bk) | refine ag tk ?_ | refine ae Tryz.call116 (fu.r) (qH _) ?_ | refine ae Tryz.call117 (fu.r) (qN _ _ _) ?_ | ((fail_if_success refine aR rfl ?_); refine aZ rfl rfl rfl (fun h=>?_) (fun h=>?_))) | (show V _ _ _ _ _; first | refine ab ?_ | refine aa ?_ | refine ao ?_ | refine aC rfl ?_ | refine aB rfl ?_ | refine ap ?_ | refine aw ?_ | refine aD rfl ?_ | refine aQ rfl (fun h=>?_) (fun h=>?_)) | (show Do _ _ _ _ _ _ _; first | refine bo rfl ?_ | refine aP ?_ | refine bg fun bk=>?_ | refine bQ rfl rfl rfl rfl rfl rfl rfl rfl rfl rfl rfl rfl ?_ | refine aH ?_ | refine am Tryz.call116 (fu.r) (qH _) ?_ | refine am Tryz.call117 (fu.r) (qN _ _ _) ?_ | ((fail_if_success refine be rfl rfl ?_); refine bA rfl rfl rfl rfl (fun h=>?_) (fun h=>?_))))
 all_goals refine ff tk (PLe.q ?_)
 all_goals simp_all [cE,fw]
 rw [zy (by omega)]
 exact ⟨rfl,rfl,rfl⟩
mutual
def iY : LExpr → Int → Int
 | .mk _ _ _ _ args,m=>lZ args m
def lZ : List LExpr → Int → Int
 | [],m=>m
 | a :: r,m=>if wr (m - 1) < 0 then -1 else if iY a (wr (m - 1)) < 0 then -1 else lZ r (iY a (wr (m - 1)))
end
theorem nodesE_eq (e : LExpr) (m : Int) : iY e m = lZ e.args m := by
 cases e
 rw [iY]
 rfl
theorem nodesStep (e : LExpr) (most : Int) (ih : ∀ a ∈ e.args,∀ m,aT Tryz.prog 35 [jt a,al m] (al (iY a m))) :
  aT Tryz.prog 35 [jt e,al most] (al (iY e most)) := by
 rw [nodesE_eq]
 refine PH.ax Tryz.func35 Tryz.ntmps35 ?_
 repeat (first | refine ak tk rfl ?_ | refine ac ?_ | refine ab ?_ | refine aa ?_ | refine ao ?_ | refine aC rfl ?_ | refine aB rfl ?_ | refine ap ?_ | refine aw ?_ | refine aD rfl ?_ | refine ai tk ?_ | refine au ?_ | refine aF tk ?_ | (refine az tk rfl rfl rfl rfl rfl rfl ?_; intro bk) | refine ag tk ?_)
 refine eV tk 8 rfl rfl fun hl _=>?_
 rw [zl] at hl
 refine fm (X := Nat × Int) (fun X=>⟨25,upd (upd (upd (upd (fun _=>.any) 1 (al X.2)) 8 (pH e.args)) 9 (al (e.args.map dB).length)) 10 (al X.1),fun _=>none,fun _=>none⟩)
  (fun X=>X.1 ≤ e.args.length ∧ lZ (e.args.drop X.1) X.2 = lZ e.args most) (fun X=>e.args.length - X.1) (0,most) ⟨Nat.zero_le _,rfl⟩ (Gh.le (ay (ay (ay (ay br)))) aV aU) ?_
 rintro ⟨j,m⟩ ⟨hj,hm⟩
 replace hj : j ≤ e.args.length := hj
 replace hm : lZ (e.args.drop j) m = lZ e.args most := hm
 rw [← hm]
 repeat (first | refine ak tk rfl ?_ | refine ac ?_ | refine ab ?_ | refine aa ?_ | refine ao ?_ | refine aC rfl ?_ | refine aB rfl ?_ | refine ap ?_ | refine aw ?_ | refine aD rfl ?_ | refine ai tk ?_ | refine au ?_ | refine aF tk ?_ | (refine az tk rfl rfl rfl rfl rfl rfl ?_; intro bk) | refine ag tk ?_)
 refine aQ rfl (fun h=>?_) (fun h=>?_)
 ·have hlt : j < e.args.length := by simpa using h
  have hd : e.args.drop j = e.args[j] :: e.args.drop (j + 1) := List.drop_eq_getElem_cons hlt
  rw [hd,lZ]
  repeat (first | refine ak tk rfl ?_ | refine ac ?_ | refine ab ?_ | refine aa ?_ | refine ao ?_ | refine aC rfl ?_ | refine aB rfl ?_ | refine ap ?_ | refine aw ?_ | refine aD rfl ?_ | refine ai tk ?_ | refine au ?_ | refine aF tk ?_ | (refine az tk rfl rfl rfl rfl rfl rfl ?_; intro bk) | refine ag tk ?_)
  refine bd tk (zn j) (ro hlt) ?_
  repeat (first | refine ak tk rfl ?_ | refine ac ?_ | refine ab ?_ | refine aa ?_ | refine ao ?_ | refine aC rfl ?_ | refine aB rfl ?_ | refine ap ?_ | refine aw ?_ | refine aD rfl ?_ | refine ai tk ?_ | refine au ?_ | refine aF tk ?_ | (refine az tk rfl rfl rfl rfl rfl rfl ?_; intro bk) | refine ag tk ?_)
  refine aQ rfl (fun h1=>?_) (fun h1=>?_)
  ·repeat (first | refine ak tk rfl ?_ | refine ac ?_ | refine ab ?_ | refine aa ?_ | refine ao ?_ | refine aC rfl ?_ | refine aB rfl ?_ | refine ap ?_ | refine aw ?_ | refine aD rfl ?_ | refine ai tk ?_ | refine au ?_ | refine aF tk ?_ | (refine az tk rfl rfl rfl rfl rfl rfl ?_; intro bk) | refine ag tk ?_)
   refine cQ tk (PLe.q ?_)
   rw [zp (by simpa [wr] using h1)]
  ·rw [zy (by simpa [wr] using h1)]
   repeat (first | refine ak tk rfl ?_ | refine ac ?_ | refine ab ?_ | refine aa ?_ | refine ao ?_ | refine aC rfl ?_ | refine aB rfl ?_ | refine ap ?_ | refine aw ?_ | refine aD rfl ?_ | refine ai tk ?_ | refine au ?_ | refine aF tk ?_ | (refine az tk rfl rfl rfl rfl rfl rfl ?_; intro bk) | refine ag tk ?_)
   refine ae Tryz.call35 (fu.r) (ih _ (List.getElem_mem hlt) _) ?_
   repeat (first | refine ak tk rfl ?_ | refine ac ?_ | refine ab ?_ | refine aa ?_ | refine ao ?_ | refine aC rfl ?_ | refine aB rfl ?_ | refine ap ?_ | refine aw ?_ | refine aD rfl ?_ | refine ai tk ?_ | refine au ?_ | refine aF tk ?_ | (refine az tk rfl rfl rfl rfl rfl rfl ?_; intro bk) | refine ag tk ?_)
   refine aQ rfl (fun h2=>?_) (fun h2=>?_)
   ·repeat (first | refine ak tk rfl ?_ | refine ac ?_ | refine ab ?_ | refine aa ?_ | refine ao ?_ | refine aC rfl ?_ | refine aB rfl ?_ | refine ap ?_ | refine aw ?_ | refine aD rfl ?_ | refine ai tk ?_ | refine au ?_ | refine aF tk ?_ | (refine az tk rfl rfl rfl rfl rfl rfl ?_; intro bk) | refine ag tk ?_)
    refine cQ tk (PLe.q ?_)
    rw [zp (by simpa [wr] using h2)]
   ·repeat (first | refine ak tk rfl ?_ | refine ac ?_ | refine ab ?_ | refine aa ?_ | refine ao ?_ | refine aC rfl ?_ | refine aB rfl ?_ | refine ap ?_ | refine aw ?_ | refine aD rfl ?_ | refine ai tk ?_ | refine au ?_ | refine aF tk ?_ | (refine az tk rfl rfl rfl rfl rfl rfl ?_; intro bk) | refine ag tk ?_)
    refine kj (j + 1,iY e.args[j] (wr (m - 1))) ?_ ⟨hlt,?_⟩ (Gh.le (bP (PLe.q (eF (by omega))) (ay (ay (ay br)))) aV aU)
    ·show e.args.length - (j + 1) < e.args.length - j
     omega
    ·rw [zy (by simpa [wr] using h2)]
 have hge : j = e.args.length := by have : ¬ j < e.args.length := by simpa using h
                                    omega
 repeat (first | refine ak tk rfl ?_ | refine ac ?_ | refine ab ?_ | refine aa ?_ | refine ao ?_ | refine aC rfl ?_ | refine aB rfl ?_ | refine ap ?_ | refine aw ?_ | refine aD rfl ?_ | refine ai tk ?_ | refine au ?_ | refine aF tk ?_ | (refine az tk rfl rfl rfl rfl rfl rfl ?_; intro bk) | refine ag tk ?_)
 refine cQ tk (PLe.q ?_)
 rw [hge,List.drop_length,lZ]
theorem qe : ∀ (e : LExpr) (m : Int),aT Tryz.prog 35 [jt e,al m] (al (iY e m))
 | .mk k n i x args,m=>nodesStep (.mk k n i x args) m fun a ha m=>by
  have ha' : a ∈ args := ha
  exact qe a m
end
end Go.Proofs.YtlddibnpcmlobaaGreat

namespace Go.Proofs.YtlddibnpcmlobaaGreat
noncomputable section
open Go Go.Ab
set_option maxRecDepth 4000
def fB (x : LVal) (k : Int) (nl : Bool) : Prop := dW x = true ∧ (x.kind = k ∨ x.kind = 0) ∧ (x.kind = 0 → nl = true)
theorem valid_kind {x : LVal} (h : dW x = true) : x.kind = 0 ∨ x.kind = 1 ∨ x.kind = 2 ∨ x.kind = 3 := by
 unfold dW at h
 by_cases h0 : x.kind = 0
 ·exact .inl h0
 ·by_cases h1 : x.kind = 1
  ·exact .inr (.inl h1)
  ·by_cases h2 : x.kind = 2
   ·exact .inr (.inr (.inl h2))
   ·by_cases h3 : x.kind = 3
    ·exact .inr (.inr (.inr h3))
    ·simp [h0,h1,h2,h3] at h
theorem ip {k : Int} {nl : Bool} (h : nl = true) : fB .nul k nl := ⟨rfl,.inr rfl,fun _=>h⟩
theorem mJ (b : Bool) (nl : Bool) : fB (lW b) 2 nl := by
 cases b <;> exact ⟨rfl,.inl rfl,fun h=>by simp [lW] at h⟩
theorem fits_int (n : Int) : fB (intV n) 1 true := by
 unfold intV
 split
 ·exact ip rfl
 ·refine ⟨?_,.inl rfl,fun _=>rfl⟩
  simp [dW]
  omega
theorem fits_number (op : List UInt8) (a b : Int) : fB (nE op a b) 1 true := by
 unfold nE
 repeat' split
 all_goals first | exact fits_int _ | exact ip rfl
structure EnvOk (cols vars : List LCol) (v : LEnv) : Prop where
 hcols : v.cols = cols
 len : v.row.length = cols.length
 row : ∀ (i : Nat) (c : LCol) (x : LVal),cols[i]? = some c → v.row[i]? = some x → fB x c.kind c.nullable
 params : ∀ x ∈ v.params,dW x = true
 names : v.vnames = vars.map LCol.name
 vlen : v.vvals.length = vars.length
 vals : ∀ (i : Nat) (c : LCol) (x : LVal),vars[i]? = some c → v.vvals[i]? = some x → fB x c.kind c.nullable
theorem qQ {α β : Type} (g : α → β) (p : β → Bool) (q : α → Bool) (h : ∀ a,p (g a) = q a) (l : List α) : bh p (l.map g) = bh q l := by
 have : (l.map g).findIdx? p = l.findIdx? q := by
  induction l with
  | nil=>rfl
  | cons a l ih=>simp [List.findIdx?_cons,h,ih]
 simp [bh,this]
theorem ou {α : Type} {p : α → Bool} {l : List α} (h : 0 ≤ bh p l) : (bh p l).toNat < l.length := by
 have := idxOf_lt (p := p) (l := l)
 omega
theorem find_some {l : List LCol} {name : List UInt8} (h : (kn l name).2 = true) : 0 ≤ bh (fun c : LCol=>c.name == name) l ∧ l[(bh (fun c : LCol=>c.name == name) l).toNat]? = some (kn l name).1 := by
 unfold kn at h ⊢
 by_cases hi : bh (fun c : LCol=>c.name == name) l < 0
 ·simp [hi] at h
 ·have hlt := ou (p := fun c : LCol=>c.name == name) (l := l) (by omega)
  simp only [hi,if_false]
  refine ⟨by omega,?_⟩
  simp [hlt]
theorem rQ {l : List LCol} {vals : Rq} {name : List UInt8} (hlen : vals.length = l.length) (hv : ∀ (i : Nat) (c : LCol) (x : LVal),l[i]? = some c → vals[i]? = some x → fB x c.kind c.nullable) (h : (kn l name).2 = true) :
  0 ≤ bh (fun c : LCol=>c.name == name) l ∧ bh (fun c : LCol=>c.name == name) l < vals.length ∧ fB (vals.getD (bh (fun c : LCol=>c.name == name) l).toNat .nul) (kn l name).1.kind (kn l name).1.nullable := by
 obtain ⟨h0,h1⟩ := find_some h
 have hlt := ou h0
 have hlt' : (bh (fun c : LCol=>c.name == name) l).toNat < vals.length := by omega
 refine ⟨h0,by omega,?_⟩
 have := hv _ _ vals[(bh (fun c : LCol=>c.name == name) l).toNat] h1 (ze hlt')
 simpa [hlt'] using this
theorem arity_name {name : List UInt8} {a : Nat} (h : bX name = some a) : name ∈ dd := by
 unfold bX at h
 simp only [dd,List.mem_cons,List.mem_nil_iff,or_false]
 split at h
 ·rename_i h1
  simp only [Bool.or_eq_true,beq_iff_eq] at h1
  rcases h1 with (((((((h1 | h1) | h1) | h1) | h1) | h1) | h1) | h1) | h1 <;> simp [h1]
 ·split at h
  ·rename_i h1
   simp only [Bool.or_eq_true,beq_iff_eq] at h1
   rcases h1 with (h1 | h1) | h1 <;> simp [h1]
  ·split at h
   ·rename_i h1
    simp only [beq_iff_eq] at h1
    simp [h1]
   ·cases h
theorem fits_both {a b : LVal} {ka kb : Int} {na nb : Bool} (d : Int) (hd : d = 0 ∨ d = 1) (ha : fB a ka na) (hb : fB b kb nb) (h1 : ka = 2 ∨ ka = 0) (h2 : kb = 2 ∨ kb = 0) : fB (bothV a b d) 2 (na || nb) := by
 obtain ⟨va,ka',na'⟩ := ha
 obtain ⟨vb,kb',nb'⟩ := hb
 have bool2 : ∀ {x : LVal},dW x = true → x.kind = 2 → x.int = 0 ∨ x.int = 1 := by
  intro x hx hk
  simp [dW,hk] at hx
  exact hx.2
 have w1 : wr (1 - d) = 1 - d := by rcases hd with rfl | rfl <;> rfl
 unfold bothV
 split
 ·exact mJ _ _
 ·rename_i hn
  split
  ·exact mJ _ _
  ·rename_i hm
   apply ip
   by_cases ha0 : a.kind = 0
   ·simp [na' ha0]
   ·by_cases hb0 : b.kind = 0
    ·simp [nb' hb0]
    ·exfalso
     have a2 : a.kind = 2 := by omega
     have b2 : b.kind = 2 := by omega
     have ia := bool2 va a2
     have ib := bool2 vb b2
     simp [a2,b2,w1] at hn hm
     omega
theorem op_sound {name : List UInt8} {xs : Rq} {ks : List KR} (hlen : xs.length = ks.length) (hok : ∀ (i : Nat) (x : LVal) (r : KR),xs[i]? = some x → ks[i]? = some r → fB x r.1 r.2.1) (har : bX name = some ks.length)
  (ht : (dU name (ks.map (·.1)) (ks.any (·.2.1))).2.2 = 0) : fB (bN name xs) (dU name (ks.map (·.1)) (ks.any (·.2.1))).1 (dU name (ks.map (·.1)) (ks.any (·.2.1))).2.1 := by
 have hn := arity_name har
 have ty0 : ∀ {k : Int} {nl ok : Bool},(kD k nl ok).2.2 = 0 → ok = true ∧ kD k nl ok = (k,nl,0) := by
  intro k nl ok h
  cases ok
  ·simp [kD] at h
  ·exact ⟨rfl,rfl⟩
 have all2 : ∀ {w : Int} {a b : Int},nw w [a,b] = true → (a = w ∨ a = 0) ∧ (b = w ∨ b = 0) := by
  intro w a b h
  simp [nw] at h
  omega
 have all1 : ∀ {w : Int} {a : Int},nw w [a] = true → (a = w ∨ a = 0) := by
  intro w a h
  simp [nw] at h
  omega
 simp only [dd,List.mem_cons,List.mem_nil_iff,or_false] at hn
 rcases hn with rfl | rfl | rfl | rfl | rfl | rfl | rfl | rfl | rfl | rfl | rfl | rfl | rfl
 case inl | inr.inl | inr.inr.inl =>
  all_goals
   have h2 : ks.length = 2 := (Option.some.inj har).symm
   obtain ⟨r,s,rfl⟩ := ix h2
   obtain ⟨a,b,rfl⟩ := ix (hlen.trans h2)
   simp [dU] at ht ⊢
   obtain ⟨_,e⟩ := ty0 ht
   rw [e]
   simp [bN,bX,jd]
   repeat' split
   all_goals first | exact fits_number _ _ _ | exact ip rfl
 case inr.inr.inr.inl | inr.inr.inr.inr.inl | inr.inr.inr.inr.inr.inl =>
  all_goals
   have h2 : ks.length = 2 := (Option.some.inj har).symm
   obtain ⟨r,s,rfl⟩ := ix h2
   obtain ⟨a,b,rfl⟩ := ix (hlen.trans h2)
   have fa := hok 0 a r rfl rfl
   have fb := hok 1 b s rfl rfl
   simp [dU] at ht ⊢
   obtain ⟨_,e⟩ := ty0 ht
   rw [e]
   simp [bN,bX,jd]
   split
   ·rename_i h0
    apply ip
    rcases h0 with h0 | h0
    ·simp [fa.2.2 h0]
    ·simp [fb.2.2 h0]
   ·exact mJ _ _
 case inr.inr.inr.inr.inr.inr.inl | inr.inr.inr.inr.inr.inr.inr.inl =>
  all_goals
   have h2 : ks.length = 2 := (Option.some.inj har).symm
   obtain ⟨r,s,rfl⟩ := ix h2
   obtain ⟨a,b,rfl⟩ := ix (hlen.trans h2)
   have fa := hok 0 a r rfl rfl
   have fb := hok 1 b s rfl rfl
   simp [dU] at ht ⊢
   obtain ⟨hal,e⟩ := ty0 ht
   rw [e]
   obtain ⟨h3,h4⟩ := all2 hal
   simp [bN,bX]
   exact fits_both _ (by omega) fa fb h3 h4
 case inr.inr.inr.inr.inr.inr.inr.inr.inl =>
  have h2 : ks.length = 1 := (Option.some.inj har).symm
  obtain ⟨r,rfl⟩ := List.length_eq_one_iff.1 h2
  obtain ⟨a,rfl⟩ := List.length_eq_one_iff.1 (hlen.trans h2)
  have fa := hok 0 a r rfl rfl
  simp [dU] at ht ⊢
  obtain ⟨hal,e⟩ := ty0 ht
  rw [e]
  have h3 := all1 hal
  simp [bN,bX,jd,iU]
  split
  ·rename_i h0; exact ip (fa.2.2 h0)
  ·rename_i h0
   have : a.kind = 2 := by have := fa.2.1; omega
   rw [zp this]
   exact mJ _ _
 case inr.inr.inr.inr.inr.inr.inr.inr.inr.inl =>
  have h2 : ks.length = 2 := (Option.some.inj har).symm
  obtain ⟨r,s,rfl⟩ := ix h2
  obtain ⟨a,b,rfl⟩ := ix (hlen.trans h2)
  simp [dU] at ht ⊢
  obtain ⟨_,e⟩ := ty0 ht
  rw [e]
  simp [bN,bX,jd]
  repeat' split
  all_goals first | exact ip rfl | skip
  rename_i h3
  refine ⟨?_,.inl rfl,fun h=>by simp at h⟩
  simp [dW]
  omega
 case inr.inr.inr.inr.inr.inr.inr.inr.inr.inr.inl =>
  have h2 : ks.length = 1 := (Option.some.inj har).symm
  obtain ⟨r,rfl⟩ := List.length_eq_one_iff.1 h2
  obtain ⟨a,rfl⟩ := List.length_eq_one_iff.1 (hlen.trans h2)
  simp [dU,bN,bX]
  exact mJ _ _
 case inr.inr.inr.inr.inr.inr.inr.inr.inr.inr.inr.inl =>
  have h2 : ks.length = 1 := (Option.some.inj har).symm
  obtain ⟨r,rfl⟩ := List.length_eq_one_iff.1 h2
  obtain ⟨a,rfl⟩ := List.length_eq_one_iff.1 (hlen.trans h2)
  have fa := hok 0 a r rfl rfl
  simp [dU] at ht ⊢
  obtain ⟨hal,e⟩ := ty0 ht
  rw [e]
  have h3 := all1 hal
  simp [bN,bX,jd,iU]
  split
  ·rename_i h0; exact ip (fa.2.2 h0)
  ·rename_i h0
   have hk : a.kind = 3 := by have := fa.2.1; omega
   rw [zp hk]
   have hv := fa.1
   simp [dW,hk] at hv
   have hi : intV (a.text.length : Int) = ⟨1,a.text.length,[]⟩ := by unfold intV; rw [zy (by omega)]
   rw [hi]
   refine ⟨?_,.inl rfl,fun h=>by simp at h⟩
   simp [dW]
   omega
 case inr.inr.inr.inr.inr.inr.inr.inr.inr.inr.inr.inr =>
  have h2 : ks.length = 3 := (Option.some.inj har).symm
  obtain ⟨r,s,t,rfl⟩ := len3 h2
  obtain ⟨a,b,c,rfl⟩ := len3 (hlen.trans h2)
  have fb := hok 1 b s rfl rfl
  have fc := hok 2 c t rfl rfl
  simp [dU] at ht ⊢
  obtain ⟨hal,e⟩ := ty0 ht
  rw [e]
  simp [pr] at hal
  have kb := valid_kind fb.1
  have kc := valid_kind fc.1
  have ob := fb.2.1
  have oc := fc.2.1
  simp [bN,bX]
  split
  ·refine ⟨fb.1,?_,fun h=>by simp [fb.2.2 h]⟩
   by_cases hb0 : b.kind = 0
   ·exact .inr hb0
   ·left
    split <;> omega
  ·refine ⟨fc.1,?_,fun h=>by simp [fc.2.2 h]⟩
   by_cases hc0 : c.kind = 0
   ·exact .inr hc0
   ·left
    split <;> omega
theorem kind_sound {cols vars : List LCol} {v : LEnv} (hv : EnvOk cols vars v) : ∀ e : LExpr,(cR cols vars e).2.2 = 0 → fB (bY v e) (cR cols vars e).1 (cR cols vars e).2.1 := by
 intro e
 generalize hk : SizeOf.sizeOf e = k
 induction k using Nat.strongRecOn generalizing e with
 | _ k ih =>
  intro h0
  have harg : ∀ a ∈ e.args,(cR cols vars a).2.2 = 0 → fB (bY v a) (cR cols vars a).1 (cR cols vars a).2.1 := by
   intro a ha
   refine ih (SizeOf.sizeOf a) ?_ a rfl
   rw [← hk]
   cases e
   have := List.sizeOf_lt_of_mem (show a ∈ _ from ha)
   simp only [LExpr.mk.sizeOf_spec,LExpr.args] at *
   omega
  have hK := pM cols vars e
  have hE := mh v e
  by_cases c0 : e.kind ≠ 5 ∧ 0 < e.args.length
  ·rw [zp c0] at hK; rw [hK] at h0; simp [fw] at h0
  rw [zy c0] at hK
  by_cases c1 : e.kind == 1
  ·rw [zp c1] at hK hE
   by_cases hc : (dW e.value && e.name == [] && e.index == 0) = true
   ·rw [zp hc] at hK
    rw [hK,hE]
    simp only [Bool.and_eq_true] at hc
    exact ⟨hc.1.1,.inl rfl,fun h=>by simp [h]⟩
   ·rw [zy hc] at hK; rw [hK] at h0; simp [fw] at h0
  rw [zy c1] at hK hE
  by_cases c3 : e.kind == 3
  ·have c2 : ¬ (e.kind == 2) = true := by simp at c3 ⊢; omega
   rw [zp c3] at hK
   rw [zy c2,zp c3] at hE
   split at hK
   ·rw [hK] at h0; simp [fw] at h0
   ·rw [hK,hE]
    split
    ·rename_i hp
     have hlt : e.index.toNat < v.params.length := by omega
     have hm : v.params.getD e.index.toNat .nul ∈ v.params := by
      simp [hlt]
     exact ⟨hv.params _ hm,.inl hp.2.2,fun _=>rfl⟩
    ·exact ip rfl
  rw [zy c3] at hK
  by_cases c24 : (e.kind == 2 || e.kind == 4) = true
  ·rw [zp c24] at hK
   by_cases hs : (cY e.name && e.index == 0 && decide (e.value = .nul)) = true
   ·rw [zp hs] at hK
    by_cases hf : (kn (if e.kind == 4 then vars else cols) e.name).2 = true
    ·rw [zp hf] at hK
     rw [hK,hE]
     by_cases c2 : e.kind == 2
     ·have c4 : ¬ (e.kind == 4) = true := by simp at c2 ⊢; omega
      rw [zp c2]
      rw [zy c4] at hf ⊢
      obtain ⟨f1,f2,f3⟩ := rQ hv.len hv.row hf
      rw [hv.hcols,zp ⟨f1,f2⟩]
      exact f3
     ·have c4 : (e.kind == 4) = true := by simpa [c2] using c24
      rw [zy c2,zy c3,zp c4]
      rw [zp c4] at hf ⊢
      obtain ⟨f1,f2,f3⟩ := rQ hv.vlen hv.vals hf
      have e1 : bh (fun s : List UInt8=>e.name == s) v.vnames = bh (fun c : LCol=>c.name == e.name) vars := by
       rw [hv.names]
       exact qQ LCol.name _ _ (fun c=>by rw [Bool.eq_iff_iff]; simp; exact eq_comm) vars
      rw [e1,zp ⟨f1,f2⟩]
      exact f3
    ·rw [zy hf] at hK; rw [hK] at h0; simp [fw] at h0
   ·rw [zy hs] at hK; rw [hK] at h0; simp [fw] at h0
  rw [zy c24] at hK
  have c2 : ¬ (e.kind == 2) = true := fun h=>c24 (by simp [h])
  have c4 : ¬ (e.kind == 4) = true := fun h=>c24 (by simp [h])
  rw [zy c2,zy c3,zy c4] at hE
  by_cases c5 : e.kind == 5
  ·rw [zp c5] at hK hE
   unfold iS at hK
   split at hK
   ·rw [hK] at h0; simp [fw] at h0
   ·rename_i hop
    split at hK
    ·rename_i r hr
     have := List.find?_some hr
     rw [hK] at h0
     simp [fw] at h0
     simp [h0] at this
    ·rename_i hr
     have hnone := List.find?_eq_none.1 hr
     rw [hK] at h0
     rw [hK,hE]
     refine op_sound (by simp) ?_ ?_ h0
     ·intro i x r hx hr'
      simp only [List.getElem?_map,Option.map_eq_some_iff] at hx hr'
      obtain ⟨a,ha,rfl⟩ := hx
      obtain ⟨b,hb,rfl⟩ := hr'
      rw [ha] at hb
      cases hb
      refine harg a (List.mem_of_getElem? ha) ?_
      have := hnone _ (List.mem_map.2 ⟨a,List.mem_of_getElem? ha,rfl⟩)
      simpa using this
     ·exact Classical.byContradiction fun hne=>hop (.inl hne)
  ·rw [zy c5] at hK; rw [hK] at h0; simp [fw] at h0
theorem type_sound {cols vars : List LCol} {v : LEnv} (hv : EnvOk cols vars v) (e : LExpr) (h : (cE cols vars e).2.2 = 0) : fB (bY v e) (cE cols vars e).1 (cE cols vars e).2.1 := by
 unfold cE at h ⊢
 split at h
 ·simp [fw] at h
 ·rename_i hc
  rw [zy hc]
  exact kind_sound hv e h
end
end Go.Proofs.YtlddibnpcmlobaaGreat

namespace Go.Proofs.YtlddibnpcmlobaaGreat
noncomputable section
open Go Go.Ab
structure LTable where
 name : List UInt8
 columns : List LCol
 primaryKey : List Int
 deriving DecidableEq
@[simp] def cL (x : LTable) : List PV := [(.str x.name),(.list 49 (x.columns.map aW)),(.list 3 (x.primaryKey.map bV))]
structure LForeignKey where
 table : List UInt8
 columns : List Int
 refTable : List UInt8
 deriving DecidableEq
@[simp] def ju (x : LForeignKey) : List PV := [(.str x.table),(.list 3 (x.columns.map bV)),(.str x.refTable)]
structure LConstraint where
 table : List UInt8
 left : Int
 op : List UInt8
 right : Int
 value : LVal
 deriving DecidableEq
@[simp] def ku (x : LConstraint) : List PV := [(.str x.table),(al x.left),(.str x.op),(al x.right),(al x.value.kind),(al x.value.int),(.str x.value.text)]
structure LSchema where
 tables : List LTable
 foreignKeys : List LForeignKey
 constraints : List LConstraint
 deriving DecidableEq
@[simp] def cp (x : LSchema) : List PV := [(.list 52 (x.tables.map cL)),(.list 94 (x.foreignKeys.map ju)),(.list 100 (x.constraints.map ku))]
structure LAggregateCall where
 name : List UInt8
 function : List UInt8
 args : List LExpr
@[simp] def jE (x : LAggregateCall) : List PV := [(.str x.name),(.str x.function),(.list 66 (x.args.map dB))]
inductive LQuery where
 | mk (kind : Int) (table : List UInt8) (names : List (List UInt8)) (exprs : List LExpr) (aggregates : List LAggregateCall) (descending : List Bool) (count : Int) (offset : Int) (inputs : List LQuery)
def LQuery.kind : LQuery → Int | .mk a _ _ _ _ _ _ _ _=>a
def LQuery.table : LQuery → List UInt8 | .mk _ a _ _ _ _ _ _ _=>a
def LQuery.names : LQuery → List (List UInt8) | .mk _ _ a _ _ _ _ _ _=>a
def LQuery.exprs : LQuery → List LExpr | .mk _ _ _ a _ _ _ _ _=>a
def LQuery.aggregates : LQuery → List LAggregateCall | .mk _ _ _ _ a _ _ _ _=>a
def LQuery.descending : LQuery → List Bool | .mk _ _ _ _ _ a _ _ _=>a
def LQuery.count : LQuery → Int | .mk _ _ _ _ _ _ a _ _=>a
def LQuery.offset : LQuery → Int | .mk _ _ _ _ _ _ _ a _=>a
def LQuery.inputs : LQuery → List LQuery | .mk _ _ _ _ _ _ _ _ a=>a
mutual
def cu : LQuery → List PV
 | .mk f0 f1 f2 f3 f4 f5 f6 f7 f8=>[(al f0),(.str f1),(.list 9 (f2.map gn)),(.list 66 (f3.map dB)),(.list 68 (f4.map jE)),(.list 4 (f5.map gi)),(al f6),(al f7),.list 35 (oQ f8)]
def oQ : List LQuery → List (List PV)
 | []=>[]
 | e :: r=>cu e :: oQ r
end
theorem qt : ∀ l,oQ l = l.map cu
 | []=>rfl
 | e :: r=>by simp [oQ,qt r]
def aK (x : LQuery) : List PV := [(al x.kind),(.str x.table),(.list 9 (x.names.map gn)),(.list 66 (x.exprs.map dB)),(.list 68 (x.aggregates.map jE)),(.list 4 (x.descending.map gi)),(al x.count),(al x.offset),(.list 35 (x.inputs.map cu))]
theorem ci (x : LQuery) : cu x = aK x := by
 cases x
 simp [cu,aK,qt,LQuery.kind,LQuery.table,LQuery.names,LQuery.exprs,LQuery.aggregates,LQuery.descending,LQuery.count,LQuery.offset,LQuery.inputs]
structure LResult where
 columns : List LCol
 rows : Rz
 deriving DecidableEq
@[simp] def mI (x : LResult) : List PV := [(.list 49 (x.columns.map aW)),(.list 55 (x.rows.map (aq 54 af)))]
structure LRelation where
 table : List UInt8
 rows : Rz
 deriving DecidableEq
@[simp] def dF (x : LRelation) : List PV := [(.str x.table),(.list 55 (x.rows.map (aq 54 af)))]
structure LRun where
 s : LSchema
 st : List LRelation
 args : Rq
 vars : List LCol
 names : List (List UInt8)
 vals : Rq
 deriving DecidableEq
@[simp] def dJ (x : LRun) : List PV := [(.list 52 (x.s.tables.map cL)),(.list 94 (x.s.foreignKeys.map ju)),(.list 100 (x.s.constraints.map ku)),(.list 57 (x.st.map dF)),(.list 54 (x.args.map af)),(.list 49 (x.vars.map aW)),(.list 9 (x.names.map gn)),(.list 54 (x.vals.map af))]
structure LChecker where
 s : LSchema
 vars : List LCol
 deriving DecidableEq
@[simp] def dX (x : LChecker) : List PV := [(.list 52 (x.s.tables.map cL)),(.list 94 (x.s.foreignKeys.map ju)),(.list 100 (x.s.constraints.map ku)),(.list 49 (x.vars.map aW))]
end
end Go.Proofs.YtlddibnpcmlobaaGreat

namespace Go.Ab
noncomputable section
section
variable {P : Program} {T : TT}
theorem detS_idxO (hT : T.Ok P) {o : Oper} {ev : Operand → PV} {H : Heap} {t : TypeId} {x i : Operand} (ho : o.op = .indexAddr t x i) {ti ei : TInfo} {e : TypeId} (hti : T.get t = some ti) (hd : ti.desc = .slice e) (hei : T.get e = some ei)
  {tag : Nat} {g : OwnRef} {len : Nat} (hx : ev x = .own tag g len) {k : IntKind} {j : Int} (hi : ev i = .val (.int k j)) (hj : 0 ≤ j ∧ j.toNat < len) (hb : ∃ b,g.blk = some b) : DetS P o ev H (.optr tag g ei.size j.toNat 0) := by
 intro C M a w _ he
 have hxr := he x (by rw [ho]; simp [Op.operands])
 have hir := he i (by rw [ho]; simp [Op.operands])
 rw [hx] at hxr
 rw [hi] at hir
 simp only [Rep] at hxr hir
 obtain ⟨b,hb⟩ := hb
 have hu := (hT.get hti).rund w
 rw [hd] at hu
 have hsz := (hT.get hei).rsize w
 have h2 : j < (len : Int) := by omega
 refine ⟨.pointer (some ⟨b,j.toNat * ei.size,none⟩),?_,?_⟩
 ·simp [execOp,ho,Instr.indexAt,hir,hxr.2,OwnRef.val,hb,asIntOf,hu,hj.1,h2,hsz,gF]
 ·simp only [Rep]
  exact ⟨trivial,b,hb,by simp⟩
theorem mY {k : Nat} : ∀ {rows : List (List PV)} {j : Nat} {r : List PV},(∀ q ∈ rows,q.length = k) → rows[j]? = some r → ∀ i p,r[i]? = some p → rows.flatten[j * k + i]? = some p
 | [],j,r,_,h,_,_,_=>by simp at h
 | q :: rows,0,r,hl,h,i,p,hp=>by
  simp only [List.getElem?_cons_zero,zo] at h
  subst h
  simp only [List.flatten_cons,Nat.zero_mul,Nat.zero_add]
  rw [List.getElem?_append_left (zg.1 hp).1]
  exact hp
 | q :: rows,j + 1,r,hl,h,i,p,hp=>by
  have hq := hl q (by simp)
  have := mY (rows := rows) (j := j) (fun q hq=>hl q (by simp [hq])) (by simpa using h) i p hp
  simp only [List.flatten_cons]
  rw [List.getElem?_append_right (by rw [hq,Nat.add_mul]; omega),hq,show (j + 1) * k + i - k = j * k + i from by rw [Nat.add_mul]; omega]
  exact this
theorem detS_loadO (hT : T.Ok P) {o : Oper} {ev : Operand → PV} {H : Heap} {t : TypeId} {x : Operand} (ho : o.op = .load t x) {ti : TInfo} (hti : T.get t = some ti) {tag : Nat} {g : OwnRef} {k row off : Nat} (hx : ev x = .optr tag g k row off)
  {e : TypeId} {rows : List (List PV)} {wr : Bool} (hob : H.ob tag = some ⟨g,e,rows,wr⟩) {ei : TInfo} (hei : T.get e = some ei) (hk : k = ei.size) {cells : List PV} (hr : rows[row]? = some cells) {r : PV} (hc : fQ ti off cells = some r) : DetS P o ev H r := by
 intro C M a w hi he
 have hxr := he x (by rw [ho]; simp [Op.operands])
 rw [hx] at hxr
 simp only [Rep] at hxr
 obtain ⟨_,b,hb,hv⟩ := hxr
 obtain ⟨i,h1,h2,h3,h4⟩ := hi.objs tag _ hob
 obtain ⟨i',h5,h6,_,_⟩ := (hT.get hei).info
 simp only at h1 h3 h4
 rw [h1] at h5
 cases h5
 rcases h4 with ⟨hn,_⟩ | ⟨b',cur,hb',hm,hcur,hcs,hlc,hcm,hcr,h1c,_,_⟩
 ·rw [hb] at hn; cases hn
 ·rw [hb] at hb'
  cases hb'
  have hlt : row < rows.length := (zg.1 hr).1
  have hcl : cells.length = i.size := h3 cells (List.mem_of_getElem? hr)
  have hks : k = i.size := by rw [hk,h6]
  subst hks
  -- the cells of that row
  have hflat : rows.flatten.length = rows.length * i.size := by
   have : ∀ l : List (List PV),(∀ q ∈ l,q.length = i.size) → l.flatten.length = l.length * i.size := by
    intro l
    induction l with
    | nil=>simp
    | cons q l ih=>intro hl; simp [ih fun q hq=>hl q (by simp [hq]),hl q (by simp),Nat.add_mul]; omega
   exact this rows h3
  have hseg : aA P M false cells ((cur.toList.take (rows.length * i.size)).drop (row * i.size) |>.take i.size) := by
   have h7 := (hcr.drop (row * i.size)).take i.size
   have e1 : (rows.flatten.drop (row * i.size)).take i.size = cells := by
    apply List.ext_getElem?
    intro m
    rw [List.getElem?_take]
    split
    ·rename_i hm
     rw [List.getElem?_drop]
     have hcm : cells[m]? = some cells[m] := ze (by omega)
     rw [hcm]
     exact mY h3 hr m _ hcm
    ·rw [List.getElem?_eq_none (by omega)]
   rwa [e1] at h7
  obtain ⟨v,h8,h9⟩ := ml (hT.get hti) w b (row * i.size) off cells _ hseg (fun j y hj=>by
   rw [cell_of_row w b (row * i.size + j) cur e (0,0) hcur]
   rw [List.getElem?_take] at hj
   split at hj
   ·rw [List.getElem?_drop,List.getElem?_take] at hj
    split at hj
    ·simpa using hj
    ·cases hj
   ·cases hj) hc
  refine ⟨v,?_,h9.slot⟩
  simp [execOp,ho,hv,Instr.loadAt,Instr.sureAddr,h8]
theorem splice_seg {α : Type} (X Y Z cs : List α) (off : Nat) (h : off + cs.length ≤ Y.length) :
  X ++ (Y.take off ++ cs ++ Y.drop (off + cs.length)) ++ Z = (X ++ (Y ++ Z)).take (X.length + off) ++ cs ++ (X ++ (Y ++ Z)).drop (X.length + off + cs.length) := by
 rw [List.take_length_add_append,List.take_append_of_le_length (by omega),show X.length + off + cs.length = X.length + (off + cs.length) from by omega,List.drop_length_add_append,List.drop_append_of_le_length h]
 simp
theorem splice_take {α : Type} (l cs : List α) (p N : Nat) (h : p + cs.length ≤ N) (hN : N ≤ l.length) :
  (l.take p ++ cs ++ l.drop (p + cs.length)).take N = (l.take N).take p ++ cs ++ (l.take N).drop (p + cs.length) := by
 obtain ⟨U,hU⟩ : ∃ U,U = l.take N := ⟨_,rfl⟩
 obtain ⟨W,hW⟩ : ∃ W,W = l.drop N := ⟨_,rfl⟩
 have hl : l = U ++ W := by rw [hU,hW,List.take_append_drop]
 have hUl : U.length = N := by rw [hU]; simp; omega
 rw [← hU,hl,List.take_append_of_le_length (l₁ := U) (i := p) (by omega),List.drop_append_of_le_length (l₁ := U) (i := p + cs.length) (by omega)]
 rw [← List.append_assoc]
 have e : (U.take p ++ cs ++ U.drop (p + cs.length)).length = N := by simp; omega
 rw [← e,List.take_left]
def setRow (rows : List (List PV)) (row off : Nat) (cs : List PV) : List (List PV) := rows.set row (eU (rows.getD row []) off cs)
theorem set_flat {k : Nat} : ∀ {rows : List (List PV)} {j : Nat} {q : List PV},(∀ r ∈ rows,r.length = k) → q.length = k → j < rows.length → (rows.set j q).flatten = rows.flatten.take (j * k) ++ q ++ rows.flatten.drop (j * k + k)
 | [],j,q,_,_,h=>by simp at h
 | r :: rows,0,q,hl,hq,_=>by
  have hr := hl r (by simp)
  simp only [List.set_cons_zero,List.flatten_cons,Nat.zero_mul,List.take_zero,List.nil_append,Nat.zero_add]
  rw [← hr,List.drop_left]
 | r :: rows,j + 1,q,hl,hq,h=>by
  have hr := hl r (by simp)
  have ih := set_flat (rows := rows) (j := j) (q := q) (fun r hr=>hl r (by simp [hr])) hq (by simpa using h)
  simp only [List.set_cons_succ,List.flatten_cons,ih]
  have e1 : (j + 1) * k = r.length + j * k := by rw [Nat.add_mul,hr]; omega
  have e2 : r.length + j * k + k = r.length + (j * k + k) := by omega
  rw [e1,List.take_length_add_append,e2,List.drop_length_add_append]
  simp
theorem eff_storeO (hT : T.Ok P) {o : Oper} {ev : Operand → PV} {H : Heap} {t : TypeId} {x y : Operand} (ho : o.op = .store t x y) {ti : TInfo} (hti : T.get t = some ti) {tag : Nat} {g : OwnRef} {k row off : Nat} (hx : ev x = .optr tag g k row off)
  {e : TypeId} {rows : List (List PV)} (hob : H.ob tag = some ⟨g,e,rows,true⟩) {ei : TInfo} (hei : T.get e = some ei) (hk : k = ei.size) (hrow : row < rows.length) {py : PV} (hy : PLe P (ev y) py) {cs : List PV} (hc : cX py = some cs) (hf : PV.frozL cs = true) (h1 : cs.all PV.one = true) (hl : cs.length = ti.size) (hle : off + ti.size ≤ ei.size)
  {K : PV → Heap → Prop} (hK : K .any ⟨H.bx,upd H.ob tag (some ⟨g,e,setRow rows row off cs,true⟩)⟩) : Eff P o ev H K := by
 intro C M a w next Q hi he hn
 have hxr := he x (by rw [ho]; simp [Op.operands])
 have hyr := he y (by rw [ho]; simp [Op.operands])
 rw [hx] at hxr
 simp only [Rep] at hxr
 obtain ⟨_,b,hb,hv⟩ := hxr
 have hr := kh hc (hy M _ hyr)
 have hone := aA.oneCell h1 hr
 have hrf := aA.unslot hf hr
 have hvs : (a.eval y).cells.size = ti.size := by have := hr.length; simp at this; omega
 obtain ⟨i,g1,g2,g3,g4⟩ := hi.objs tag _ hob
 obtain ⟨i',g5,g6,_,_⟩ := (hT.get hei).info
 simp only at g1 g2 g3 g4
 rw [g1] at g5
 cases g5
 rcases g4 with ⟨hn',_⟩ | ⟨b',cur,hb',hm,hcur,hcs,hlc,hcm,hcr,h1c,hw1,hw2⟩
 ·rw [hb] at hn'; cases hn'
 rw [hb] at hb'
 cases hb'
 have hks : k = i.size := by rw [hk,g6]
 subst hks
 rw [← g6] at hle
 have hfit : row * i.size + i.size ≤ rows.length * i.size := by
  have := Nat.mul_le_mul_right i.size (show row + 1 ≤ rows.length from hrow)
  rw [Nat.add_mul] at this
  omega
 have hcap : rows.length * i.size ≤ cur.size := by rw [hcs]; exact Nat.mul_le_mul_right _ hlc
 have hvl : (a.eval y).cells.toList.length = ti.size := by simpa using hvs
 have hst := run_storeCells_at P b (row * i.size + off) e (a.eval y).cells.toList 0 cur w hcur (by rw [hvl]; omega) hone
 simp only [Nat.add_zero] at hst
 have hrun : (execOp a.eval o).run P w = .ok .skip (w.setRow b (cur.toList.take (row * i.size + off) ++ (a.eval y).cells.toList ++ cur.toList.drop (row * i.size + off + (a.eval y).cells.toList.length)).toArray) := by
  simp only [execOp,ho,Instr.storeAt,hv,Instr.sureAddr,Sem.run_bind,Sem.run_pure,Result.andThen_ok,storeVar,(hT.get hti).rsize w,hvs]
  simp only [ne_eq,not_true_eq_false,if_false]
  rw [hst]
  rfl
 unfold Oper.wp
 rw [hrun]
 have hgetD : rows.getD row [] = rows[row] := by simp [hrow]
 have hrl : (rows.getD row []).length = i.size := by rw [hgetD]; exact g3 _ (List.getElem_mem hrow)
 have hspl : (eU (rows.getD row []) off cs).length = i.size := by
  unfold eU
  rw [List.length_append,List.length_append,List.length_take,List.length_drop,hrl,hl]
  omega
 have hlens : ∀ r ∈ setRow rows row off cs,r.length = i.size := by
  intro r hr'
  rcases List.mem_or_eq_of_mem_set hr' with h | h
  ·exact g3 r h
  ·rw [h]; exact hspl
 have hlen : (setRow rows row off cs).length = rows.length := by simp [setRow]
 have hflat : rows.flatten.length = rows.length * i.size := by
  have : ∀ l : List (List PV),(∀ q ∈ l,q.length = i.size) → l.flatten.length = l.length * i.size := by
   intro l
   induction l with
   | nil=>simp
   | cons q l ih=>intro hl; simp [ih fun q hq=>hl q (by simp [hq]),hl q (by simp),Nat.add_mul]; omega
  exact this rows g3
 have hrl2 : rows[row].length = i.size := g3 _ (List.getElem_mem hrow)
 have hrowcells : (rows.flatten.drop (row * i.size)).take i.size = rows.getD row [] := by
  rw [hgetD]
  apply List.ext_getElem?
  intro m
  rw [List.getElem?_take]
  split
  ·rename_i hm'
   rw [List.getElem?_drop]
   have hml : m < rows[row].length := by rw [hrl2]; exact hm'
   have hcm' : rows[row][m]? = some (rows[row][m]'hml) := ze hml
   rw [hcm']
   exact mY g3 (ze hrow) m _ hcm'
  ·rw [List.getElem?_eq_none (by rw [hrl2]; omega)]
 have hpv : (setRow rows row off cs).flatten = eU rows.flatten (row * i.size + off) cs := by
  unfold setRow
  rw [set_flat g3 hspl hrow,← hrowcells]
  have hA : (rows.flatten.take (row * i.size)).length = row * i.size := by rw [List.length_take,hflat]; omega
  have hY : ((rows.flatten.drop (row * i.size)).take i.size).length = i.size := by rw [List.length_take,List.length_drop,hflat]; omega
  have hdec : rows.flatten = rows.flatten.take (row * i.size) ++ ((rows.flatten.drop (row * i.size)).take i.size ++ rows.flatten.drop (row * i.size + i.size)) := by
   rw [← List.drop_drop,List.take_append_drop,List.take_append_drop]
  have key := splice_seg (rows.flatten.take (row * i.size)) ((rows.flatten.drop (row * i.size)).take i.size) (rows.flatten.drop (row * i.size + i.size)) cs off (by rw [hY,hl]; omega)
  rw [← hdec,hA] at key
  exact key
 have hvlist : (cur.toList.take (row * i.size + off) ++ (a.eval y).cells.toList ++ cur.toList.drop (row * i.size + off + (a.eval y).cells.toList.length)).take (rows.length * i.size) =
   (cur.toList.take (rows.length * i.size)).take (row * i.size + off) ++ (a.eval y).cells.toList ++ (cur.toList.take (rows.length * i.size)).drop (row * i.size + off + (a.eval y).cells.toList.length) := by
  exact splice_take cur.toList (a.eval y).cells.toList (row * i.size + off) (rows.length * i.size) (by rw [hvl]; omega) (by simpa using hcap)
 refine hn undef _ _ M _ hK (Mem.le_refl M) (hi.set_obj tag _ hob b hb (setRow rows row off cs) true _ i g1 ?_ hlens ?_ ?_ hcm ?_ ?_ ?_ (fun _=>hw1 trivial) ?_) (by simp [Rep])
 ·rw [hlen]; exact g2
 ·simp only [List.size_toArray,List.length_append,List.length_take,List.length_drop,Array.length_toList,hvl]
  omega
 ·rw [hlen]; exact hlc
 ·rw [hlen,hpv]
  simp only
  rw [hvlist]
  exact pU hcr hrf (row * i.size + off)
 ·rw [hlen]
  simp only
  rw [hvlist]
  intro v hv'
  simp only [List.mem_append] at hv'
  rcases hv' with (h | h) | h
  ·exact h1c v (List.mem_of_mem_take h)
  ·exact hone v h
  ·exact h1c v (List.mem_of_mem_drop h)
 ·intro o' v' hm'
  rw [hw1 trivial o'] at hm'
  cases hm'
 ·intro o' _
  exact hw1 trivial o'
end
section
variable {P : Program} {ops : Array Oper} {rest : List Oper} {o : Oper} {n : Nat} {s s' : Nat → PV} {bx : Nat → Option Box} {ob : Nat → Option Obj} {K : PState → Prop} {T : TT} {rb : RB} {k : Nat} {L : List Nat}
theorem rj (hg : aS ops s o = some true) {r : PV} (hd : DetS P o (evS s) ⟨bx,ob⟩ r) (hp : putD n s o.dst r = some s') (h : Ao P ops rest ⟨n,s',bx,ob⟩ K) : Ao P ops (o :: rest) ⟨n,s,bx,ob⟩ K :=
 ek hg (fun C M a w next Q hi he hn=>by
  obtain ⟨v,hrun,hr⟩ := hd C M a w hi he
  unfold Oper.wp
  rw [hrun]
  exact hn v r ⟨bx,ob⟩ M w ⟨s',hp,h⟩ (Mem.le_refl M) hi hr)
theorem rr (ho : ops[k]? = some o) (hg : aS ops s o = some true) (hc : dw o.op = .det) {r : PV} (hd : ∀ bx',DetS P o (evS s) ⟨bx',if rb.o o && kg o.op then kt ob else fun _=>none⟩ r) (hp : putD n s o.dst r = some s')
  (h : Do P T rb ops L ⟨n,s',bx,ob⟩ K) : Do P T rb ops (k :: L) ⟨n,s,bx,ob⟩ K := by
 refine ⟨o,ho,true,hg,?_⟩
 simp only [if_true,hc]
 exact ⟨r,s',.inr hd,hp,h⟩
theorem nG (hT : T.Ok P) (hg : aS ops s o = some true) {t : TypeId} {x i : Operand} (ho : o.op = .indexAddr t x i) {ti ei : TInfo} {e : TypeId} (hti : T.get t = some ti) (hd : ti.desc = .slice e) (hei : T.get e = some ei)
  {tag : Nat} {g : OwnRef} {len : Nat} (hx : evS s x = .own tag g len) {kk : IntKind} {j : Int} (hi : evS s i = .val (.int kk j)) (hj : 0 ≤ j ∧ j.toNat < len) (hb : ∃ b,g.blk = some b) (hp : putD n s o.dst (.optr tag g ei.size j.toNat 0) = some s') (h : Ao P ops rest ⟨n,s',bx,ob⟩ K) :
  Ao P ops (o :: rest) ⟨n,s,bx,ob⟩ K := rj hg (detS_idxO hT ho hti hd hei hx hi hj hb) hp h
theorem lp {t : TypeId} {x i : Operand} {ti ei : TInfo} {e : TypeId} {tag : Nat} {g : OwnRef} {len : Nat} {kk : IntKind} {j : Int} (hT : T.Ok P) (hj : 0 ≤ j ∧ j.toNat < len) (hb : ∃ b,g.blk = some b) (h : Ao P ops rest ⟨n,s',bx,ob⟩ K) (hg : aS ops s o = some true := by exact rfl) (ho : o.op = .indexAddr t x i := by exact rfl) (hti : T.get t = some ti := by exact rfl) (hd : ti.desc = .slice e := by exact rfl) (hei : T.get e = some ei := by exact rfl) (hx : evS s x = .own tag g len := by exact rfl) (hi : evS s i = .val (.int kk j) := by exact rfl) (hp : putD n s o.dst (.optr tag g ei.size j.toNat 0) = some s' := by exact rfl) : Ao P ops (o :: rest) ⟨n,s,bx,ob⟩ K := nG hT hg ho hti hd hei hx hi hj hb hp h
theorem pp (hT : T.Ok P) (ho : ops[k]? = some o) (hg : aS ops s o = some true) {t : TypeId} {x i : Operand} (hop : o.op = .indexAddr t x i) {ti ei : TInfo} {e : TypeId} (hti : T.get t = some ti) (hd : ti.desc = .slice e) (hei : T.get e = some ei)
  {tag : Nat} {g : OwnRef} {len : Nat} (hx : evS s x = .own tag g len) {kk : IntKind} {j : Int} (hi : evS s i = .val (.int kk j)) (hj : 0 ≤ j ∧ j.toNat < len) (hb : ∃ b,g.blk = some b) (hp : putD n s o.dst (.optr tag g ei.size j.toNat 0) = some s') (h : Do P T rb ops L ⟨n,s',bx,ob⟩ K) :
  Do P T rb ops (k :: L) ⟨n,s,bx,ob⟩ K := rr ho hg (by rw [hop]; rfl) (fun _=>detS_idxO hT hop hti hd hei hx hi hj hb) hp h
theorem de {t : TypeId} {x i : Operand} {ti ei : TInfo} {e : TypeId} {tag : Nat} {g : OwnRef} {len : Nat} {kk : IntKind} {j : Int} (hT : T.Ok P) (hj : 0 ≤ j ∧ j.toNat < len) (hb : ∃ b,g.blk = some b) (h : Do P T rb ops L ⟨n,s',bx,ob⟩ K) (ho : ops[k]? = some o := by exact rfl) (hg : aS ops s o = some true := by exact rfl) (hop : o.op = .indexAddr t x i := by exact rfl) (hti : T.get t = some ti := by exact rfl) (hd : ti.desc = .slice e := by exact rfl) (hei : T.get e = some ei := by exact rfl) (hx : evS s x = .own tag g len := by exact rfl) (hi : evS s i = .val (.int kk j) := by exact rfl) (hp : putD n s o.dst (.optr tag g ei.size j.toNat 0) = some s' := by exact rfl) : Do P T rb ops (k :: L) ⟨n,s,bx,ob⟩ K := pp hT ho hg hop hti hd hei hx hi hj hb hp h
theorem tC (hT : T.Ok P) (hg : aS ops s o = some true) {t : TypeId} {x : Operand} (ho : o.op = .load t x) {ti : TInfo} (hti : T.get t = some ti) {tag : Nat} {g : OwnRef} {kz row off : Nat} (hx : evS s x = .optr tag g kz row off)
  {e : TypeId} {rows : List (List PV)} {wr : Bool} (hob : ob tag = some ⟨g,e,rows,wr⟩) {ei : TInfo} (hei : T.get e = some ei) (hk : kz = ei.size) {cells : List PV} (hr : rows[row]? = some cells) {r : PV} (hc : fQ ti off cells = some r) (hp : putD n s o.dst r = some s') (h : Ao P ops rest ⟨n,s',bx,ob⟩ K) :
  Ao P ops (o :: rest) ⟨n,s,bx,ob⟩ K := rj hg (detS_loadO hT ho hti hx hob hei hk hr hc) hp h
theorem jQ {t : TypeId} {x : Operand} {ti : TInfo} {tag : Nat} {g : OwnRef} {kz row off : Nat} {e : TypeId} {rows : List (List PV)} {wr : Bool} {ei : TInfo} {cells : List PV} {r : PV} (hT : T.Ok P) (hr : rows[row]? = some cells) (h : Ao P ops rest ⟨n,s',bx,ob⟩ K) (hg : aS ops s o = some true := by exact rfl) (ho : o.op = .load t x := by exact rfl) (hti : T.get t = some ti := by exact rfl) (hx : evS s x = .optr tag g kz row off := by exact rfl) (hob : ob tag = some ⟨g,e,rows,wr⟩ := by exact rfl) (hei : T.get e = some ei := by exact rfl) (hk : kz = ei.size := by exact rfl) (hc : fQ ti off cells = some r := by exact rfl) (hp : putD n s o.dst r = some s' := by exact rfl) : Ao P ops (o :: rest) ⟨n,s,bx,ob⟩ K := tC hT hg ho hti hx hob hei hk hr hc hp h
theorem fG (hT : T.Ok P) (ho : ops[k]? = some o) (hro : rb.o o = true) (hg : aS ops s o = some true) {t : TypeId} {x : Operand} (hop : o.op = .load t x) {ti : TInfo} (hti : T.get t = some ti) {tag : Nat} {g : OwnRef} {kz row off : Nat} (hx : evS s x = .optr tag g kz row off)
  {e : TypeId} {rows : List (List PV)} {wr : Bool} (hob : ob tag = some ⟨g,e,rows,wr⟩) {ei : TInfo} (hei : T.get e = some ei) (hk : kz = ei.size) {cells : List PV} (hr : rows[row]? = some cells) {r : PV} (hc : fQ ti off cells = some r) (hp : putD n s o.dst r = some s') (h : Do P T rb ops L ⟨n,s',bx,ob⟩ K) (hst : Nat.ble 1000000000000000 tag = false := by rfl) :
  Do P T rb ops (k :: L) ⟨n,s,bx,ob⟩ K := by
 refine rr ho hg (by rw [hop]; rfl) (fun bx'=>?_) hp h
 have : (rb.o o && kg o.op) = true := by rw [hro,hop]; rfl
 rw [this]
 exact detS_loadO hT hop hti hx ((statO_of hst).trans hob) hei hk hr hc
theorem mS (hT : T.Ok P) (hg : aS ops s o = some true) {t : TypeId} {x y : Operand} (ho : o.op = .store t x y) (hdst : o.dst = none) {ti : TInfo} (hti : T.get t = some ti) {tag : Nat} {g : OwnRef} {kz row off : Nat} (hx : evS s x = .optr tag g kz row off)
  {e : TypeId} {rows rows' : List (List PV)} (hob : ob tag = some ⟨g,e,rows,true⟩) {ei : TInfo} (hei : T.get e = some ei) (hk : kz = ei.size) (hrow : row < rows.length) {py : PV} (hy : PLe P (evS s y) py) {cs : List PV} (hc : cX py = some cs) (hf : PV.frozL cs = true) (h1 : cs.all PV.one = true) (hl : cs.length = ti.size) (hle : off + ti.size ≤ ei.size)
  (hr : setRow rows row off cs = rows') (h : Ao P ops rest ⟨n,s,bx,upd ob tag (some ⟨g,e,rows',true⟩)⟩ K) : Ao P ops (o :: rest) ⟨n,s,bx,ob⟩ K := by
 subst hr
 exact ek hg (eff_storeO hT ho hti hx hob hei hk hrow hy hc hf h1 hl hle ⟨s,by simp [hdst,putD],h⟩)
theorem iy (hT : T.Ok P) (ho : ops[k]? = some o) (hg : aS ops s o = some true) {t : TypeId} {x y : Operand} (hop : o.op = .store t x y) (hdst : o.dst = none) {ti : TInfo} (hti : T.get t = some ti) {tag : Nat} {g : OwnRef} {kz row off : Nat} (hx : evS s x = .optr tag g kz row off)
  {e : TypeId} {rows rows' : List (List PV)} (hob : ob tag = some ⟨g,e,rows,true⟩) {ei : TInfo} (hei : T.get e = some ei) (hk : kz = ei.size) (hrow : row < rows.length) {py : PV} (hy : PLe P (evS s y) py) {cs : List PV} (hc : cX py = some cs) (hf : PV.frozL cs = true) (h1 : cs.all PV.one = true) (hl : cs.length = ti.size) (hle : off + ti.size ≤ ei.size)
  (hr : setRow rows row off cs = rows') (h : Do P T rb ops L ⟨n,s,bx,upd ob tag (some ⟨g,e,rows',true⟩)⟩ K) : Do P T rb ops (k :: L) ⟨n,s,bx,ob⟩ K := by
 subst hr
 refine ⟨o,ho,true,hg,?_⟩
 simp only [if_true,hop,dw]
 exact ⟨hdst,.inr fun bx'=>eff_storeO hT hop hti hx hob hei hk hrow hy hc hf h1 hl hle ⟨rfl,h⟩⟩
theorem Do.storeOQ {t : TypeId} {x y : Operand} {ti : TInfo} {tag : Nat} {g : OwnRef} {kz row off : Nat} {e : TypeId} {rows rows' : List (List PV)} {ei : TInfo} {py : PV} {cs : List PV} (hT : T.Ok P) (hrow : row < rows.length) (hy : PLe P (evS s y) py) (hle : off + ti.size ≤ ei.size) (hr : setRow rows row off cs = rows') (h : Do P T rb ops L ⟨n,s,bx,upd ob tag (some ⟨g,e,rows',true⟩)⟩ K) (ho : ops[k]? = some o := by exact rfl) (hg : aS ops s o = some true := by exact rfl) (hop : o.op = .store t x y := by exact rfl) (hdst : o.dst = none := by exact rfl) (hti : T.get t = some ti := by exact rfl) (hx : evS s x = .optr tag g kz row off := by exact rfl) (hob : ob tag = some ⟨g,e,rows,true⟩ := by exact rfl) (hei : T.get e = some ei := by exact rfl) (hk : kz = ei.size := by exact rfl) (hc : cX py = some cs := by exact rfl) (hf : PV.frozL cs = true := by exact rfl) (h1 : cs.all PV.one = true := by exact rfl) (hl : cs.length = ti.size := by exact rfl) : Do P T rb ops (k :: L) ⟨n,s,bx,ob⟩ K := iy hT ho hg hop hdst hti hx hob hei hk hrow hy hc hf h1 hl hle hr h
theorem dT {α β : Type} {f : α → β} {xs : List α} {j : Nat} {x : α} (h : xs[j]? = some x) : j < (xs.map f).length := by
 have := (zg.1 h).1
 simpa using this
theorem ri {α β : Type} {f : α → β} {xs : List α} {j : Nat} {x : α} {l : Nat} (hl : l = (xs.map f).length) (h : xs[j]? = some x) : j < l := hl ▸ dT h
theorem dY {α : Type} {f : α → List PV} {xs : List α} {j : Nat} {x : α} {g : OwnRef} (ho : xs.map f ≠ [] → ∃ b,g.blk = some b) (h : xs[j]? = some x) : ∃ b,g.blk = some b := by
 refine ho fun e=>?_
 have := (zg.1 h).1
 rw [List.map_eq_nil_iff] at e
 rw [e] at this
 simp at this
theorem fM {α : Type} {f f' : α → List PV} (hE : ∀ x,f' x = f x) {xs ys : List α} {j off : Nat} {x v : α} {cs : List PV} (h : xs[j]? = some x) (hs : eU (f x) off cs = f v) (hy : xs.set j v = ys) : setRow (xs.map f') j off cs = ys.map f' := by
 subst hy
 have hlt := (zg.1 h).1
 unfold setRow
 have e : (xs.map f').getD j [] = f x := by simp [h,hE]
 rw [e,hs,← hE v,List.map_set]
theorem fh {α β : Type} {f : α → β} {xs ys : List α} {j : Nat} {v : α} (hy : xs.set j v = ys) : (xs.map f).length = (ys.map f).length := by subst hy; simp
theorem gL {fn : Func} {R : PV → Heap → Prop} {ks : List KI} {tag : Nat} {g : OwnRef} {e : TypeId} {rows : List (List PV)} {wr : Bool} (hob : ob tag = some ⟨g,e,rows,wr⟩) (h : (rows ≠ [] → ∃ b,g.blk = some b) → V P fn R ks ⟨n,s,bx,ob⟩) : V P fn R ks ⟨n,s,bx,ob⟩ := fun C M a w hi=>by
 refine h (fun hne=>?_) C M a w hi
 obtain ⟨_,_,_,_,h4⟩ := hi.2.objs tag _ hob
 rcases h4 with ⟨_,h5,_⟩ | ⟨b,_,h5,_⟩
 ·exact absurd h5 hne
 ·exact ⟨b,h5⟩
theorem qE {fn : Func} {R : PV → Heap → Prop} {ks : List KI} {tag : Nat} {g : OwnRef} {e : TypeId} {rows : List (List PV)} {wr : Bool} (hob : ob tag = some ⟨g,e,rows,wr⟩) (h : rows.length ≤ maxLen → V P fn R ks ⟨n,s,bx,ob⟩) : V P fn R ks ⟨n,s,bx,ob⟩ := fun C M a w hi=>by
 refine h ?_ C M a w hi
 obtain ⟨_,_,_,_,h4⟩ := hi.2.objs tag _ hob
 rcases h4 with ⟨_,h5,_⟩ | ⟨b,_,h5,_,_,_,h6,h7,_⟩
 ·simp only at h5; rw [h5]; simp
 ·exact Nat.le_trans h6 h7
end
def nj (bx : Nat → Option Box) (m : List (Nat × Nat)) : Nat → Option Box := fun t=>match m.find? (fun p=>Nat.beq p.2 t) with
 | some p=>bx p.1
 | none=>none
def lJ (ob : Nat → Option Obj) (m : List (Nat × Nat)) : Nat → Option Obj := fun t=>match m.find? (fun p=>Nat.beq p.2 t) with
 | some p=>ob p.1
 | none=>none
theorem beqC (a b : Nat) : Nat.beq a b = Nat.beq b a := by
 cases h : Nat.beq a b with
 | true=>rw [Nat.eq_of_beq_eq_true h]; exact (Nat.beq_refl b).symm
 | false =>
  cases h' : Nat.beq b a with
  | true=>rw [Nat.eq_of_beq_eq_true h'] at h; rw [show Nat.beq a a = true from Nat.beq_refl a] at h; cases h
  | false=>rfl
theorem dS (bx : Nat → Option Box) : nj bx [] = fun _=>none := rfl
theorem dQ (ob : Nat → Option Obj) : lJ ob [] = fun _=>none := rfl
theorem gg (bx : Nat → Option Box) (c k : Nat) (m : List (Nat × Nat)) : nj bx ((c,k) :: m) = upd (nj bx m) k (bx c) := by
 funext t
 simp only [nj,upd,List.find?_cons]
 rw [beqC t k]
 cases Nat.beq k t <;> rfl
theorem dr (ob : Nat → Option Obj) (c k : Nat) (m : List (Nat × Nat)) : lJ ob ((c,k) :: m) = upd (lJ ob m) k (ob c) := by
 funext t
 simp only [lJ,upd,List.find?_cons]
 rw [beqC t k]
 cases Nat.beq k t <;> rfl
def backB (bx : Nat → Option Box) (m : List (Nat × Nat)) (bx' : Nat → Option Box) : Nat → Option Box := fun t=>match m.find? (fun p=>Nat.beq p.1 t) with
 | some p=>bx' p.2
 | none=>bx t
def lL (ob : Nat → Option Obj) (m : List (Nat × Nat)) (ob' : Nat → Option Obj) : Nat → Option Obj := fun t=>match m.find? (fun p=>Nat.beq p.1 t) with
 | some p=>ob' p.2
 | none=>ob t
def dg : List Nat → Bool
 | []=>true
 | a :: l=>l.all (fun b=>!Nat.beq a b) && dg l
theorem go {f : Nat × Nat → Nat} : ∀ {m : List (Nat × Nat)} {p : Nat × Nat},dg (m.map f) = true → p ∈ m → m.find? (fun q=>Nat.beq (f q) (f p)) = some p
 | [],_,_,h=>by simp at h
 | q :: m,p,hd,h=>by
  simp only [List.map_cons,dg,Bool.and_eq_true] at hd
  rw [List.find?_cons]
  rcases List.mem_cons.1 h with rfl | h
  ·rw [show Nat.beq (f p) (f p) = true from Nat.beq_refl _]
  ·have hne : Nat.beq (f q) (f p) = false := by
    have := (List.all_eq_true.1 hd.1) (f p) (List.mem_map.2 ⟨p,h,rfl⟩)
    simpa using this
   rw [hne]
   exact go hd.2 h
theorem qa {f : Nat × Nat → Nat} {m : List (Nat × Nat)} {t : Nat} {p : Nat × Nat} (h : m.find? (fun q=>Nat.beq (f q) t) = some p) : p ∈ m ∧ f p = t :=
 ⟨List.mem_of_find?_eq_some h,by
  have := List.find?_some h
  exact Nat.eq_of_beq_eq_true this⟩
def hM (H : Heap) (mb mo : List (Nat × Nat)) : List Nat := mb.filterMap (fun p=>(H.bx p.1).map Box.b) ++ mo.filterMap (fun p=>(H.ob p.1).bind fun x=>x.g.blk)
theorem mR {H : Heap} {mb mo : List (Nat × Nat)} {b : Nat} (h : b ∈ hM H mb mo) : (∃ p x,p ∈ mb ∧ H.bx p.1 = some x ∧ x.b = b) ∨ ∃ p x,p ∈ mo ∧ H.ob p.1 = some x ∧ x.g.blk = some b := by
 simp only [hM,List.mem_append,List.mem_filterMap] at h
 rcases h with ⟨p,hp,h⟩ | ⟨p,hp,h⟩
 ·rw [Option.map_eq_some_iff] at h
  obtain ⟨x,hx,rfl⟩ := h
  exact .inl ⟨p,x,hp,hx,rfl⟩
 ·rw [Option.bind_eq_some_iff] at h
  obtain ⟨x,hx,h⟩ := h
  exact .inr ⟨p,x,hp,hx,h⟩
theorem ownOf_box {H : Heap} {mb mo : List (Nat × Nat)} {p : Nat × Nat} {x : Box} (hp : p ∈ mb) (hx : H.bx p.1 = some x) : x.b ∈ hM H mb mo := by
 simp only [hM,List.mem_append,List.mem_filterMap]
 exact .inl ⟨p,hp,by rw [hx]; rfl⟩
theorem ownOf_obj {H : Heap} {mb mo : List (Nat × Nat)} {p : Nat × Nat} {x : Obj} {b : Nat} (hp : p ∈ mo) (hx : H.ob p.1 = some x) (hb : x.g.blk = some b) : b ∈ hM H mb mo := by
 simp only [hM,List.mem_append,List.mem_filterMap]
 exact .inr ⟨p,hp,by rw [hx]; exact hb⟩
section
variable {P : Program} {C : Ctx} {M : Mem} {H : Heap} {w : World} {mb mo : List (Nat × Nat)}
theorem nu {bx : Nat → Option Box} {m : List (Nat × Nat)} {t : Nat} {x : Box} (h : nj bx m t = some x) : ∃ p,p ∈ m ∧ p.2 = t ∧ bx p.1 = some x := by
 unfold nj at h
 split at h
 ·rename_i p hp
  obtain ⟨h1,h2⟩ := qa (f := Prod.snd) hp
  exact ⟨p,h1,h2,h⟩
 ·cases h
theorem nA {ob : Nat → Option Obj} {m : List (Nat × Nat)} {t : Nat} {x : Obj} (h : lJ ob m t = some x) : ∃ p,p ∈ m ∧ p.2 = t ∧ ob p.1 = some x := by
 unfold lJ at h
 split at h
 ·rename_i p hp
  obtain ⟨h1,h2⟩ := qa (f := Prod.snd) hp
  exact ⟨p,h1,h2,h⟩
 ·cases h
theorem fst_inj {m : List (Nat × Nat)} (hd : dg (m.map Prod.fst) = true) {p q : Nat × Nat} (hp : p ∈ m) (hq : q ∈ m) (h : p.1 = q.1) : p = q := by
 have h1 := go (f := Prod.fst) hd hp
 have h2 := go (f := Prod.fst) hd hq
 rw [h] at h1
 rw [h1] at h2
 exact Option.some.inj h2
theorem InvH.ownMine (h : InvH P C M H w) : ∀ b ∈ hM H mb mo,C.mine b := by
 intro b hb
 rcases mR hb with ⟨p,x,_,hx,rfl⟩ | ⟨p,x,_,hx,hb⟩
 ·exact (h.boxes _ _ hx).1
 ·obtain ⟨_,_,_,_,h4⟩ := h.objs _ _ hx
  rcases h4 with ⟨h5,_⟩ | ⟨b',_,h5,h6,_⟩
  ·rw [h5] at hb; cases hb
  ·rw [h5] at hb; cases hb; exact h6
theorem InvH.enterH (h : InvH P C M H w) (hb1 : dg (mb.map Prod.fst) = true) (ho1 : dg (mo.map Prod.fst) = true) : InvH P ⟨w,hM H mb mo,M,h.gl h.ownMine,[]⟩ M ⟨nj H.bx mb,lJ H.ob mo⟩ w := by
 refine ⟨h.mem,Mem.le_refl M,fun _ _ _ hm=>.inl hm,rfl,rfl,rfl,Nat.le_refl _,fun _ _ _=>rfl,?_,?_,?_,?_,?_⟩
 ·intro t x hx
  obtain ⟨p,hp,_,hx⟩ := nu hx
  obtain ⟨_,h2,h3⟩ := h.boxes _ _ hx
  exact ⟨.inr (ownOf_box hp hx),h2,h3⟩
 ·intro t x hx
  obtain ⟨p,hp,_,hx⟩ := nA hx
  obtain ⟨i,h1,h2,h3,h4⟩ := h.objs _ _ hx
  refine ⟨i,h1,h2,h3,?_⟩
  rcases h4 with h4 | ⟨b,cur,hb,_,h5⟩
  ·exact .inl h4
  ·exact .inr ⟨b,cur,hb,.inr (ownOf_obj hp hx hb),h5⟩
 ·intro t t' x x' hx hx' hb
  obtain ⟨p,hp,e1,hy⟩ := nu hx
  obtain ⟨q,hq,e2,hy'⟩ := nu hx'
  rw [← e1,← e2,fst_inj hb1 hp hq (h.dbox _ _ x x' hy hy' hb)]
 ·intro t t' x x' b hx hx' hb hb'
  obtain ⟨p,hp,e1,hy⟩ := nA hx
  obtain ⟨q,hq,e2,hy'⟩ := nA hx'
  rw [← e1,← e2,fst_inj ho1 hp hq (h.dobj _ _ x x' b hy hy' hb hb')]
 ·intro t t' x x' hx hx' hb
  obtain ⟨p,hp,_,hy⟩ := nu hx
  obtain ⟨q,hq,_,hy'⟩ := nA hx'
  exact h.dmix _ _ x x' hy hy' hb
theorem InvH.afterH {M' : Mem} {H' : Heap} {w' : World} (h : InvH P C M H w) (_hb1 : dg (mb.map Prod.fst) = true) (hb2 : dg (mb.map Prod.snd) = true) (_ho1 : dg (mo.map Prod.fst) = true) (ho2 : dg (mo.map Prod.snd) = true)
  {hg : Gl w (hM H mb mo)} (h' : InvH P ⟨w,hM H mb mo,M,hg,[]⟩ M' H' w') : InvH P C M' ⟨backB H.bx mb H'.bx,lL H.ob mo H'.ob⟩ w' := by
 have hown : ∀ b,b ∈ hM H mb mo → C.mine b := by
  intro b hb
  rcases mR hb with ⟨p,x,_,hx,rfl⟩ | ⟨p,x,_,hx,hb⟩
  ·exact (h.boxes _ _ hx).1
  ·obtain ⟨_,_,_,_,h4⟩ := h.objs _ _ hx
   rcases h4 with ⟨h5,_⟩ | ⟨b',_,h5,h6,_⟩
   ·rw [h5] at hb; cases hb
   ·rw [h5] at hb; cases hb; exact h6
 have hup : ∀ b,(⟨w,hM H mb mo,M,hg,[]⟩ : Ctx).mine b → C.mine b := fun b hb=>by
  rcases hb with hb | hb
  ·exact .inl (Nat.le_trans h.size hb)
  ·exact hown b hb
 have hnone : ∀ b o,b < w.heap.size → b ∉ hM H mb mo → M b o = none → M' b o = none := by
  intro b o hb hno hn
  cases hm : M' b o with
  | none=>rfl
  | some v =>
   rcases h'.new b o v hm with h1 | h1 | h1
   ·rw [show M b o = some v from h1] at hn; cases hn
   ·exact absurd hb (Nat.not_lt.2 h1)
   ·exact absurd h1 hno
 have kb : ∀ t x,backB H.bx mb H'.bx t = some x → (∃ p,p ∈ mb ∧ p.1 = t ∧ H'.bx p.2 = some x) ∨ ((∀ p ∈ mb,p.1 ≠ t) ∧ H.bx t = some x) := by
  intro t x hx
  unfold backB at hx
  split at hx
  ·rename_i p hp
   obtain ⟨h1,h2⟩ := qa (f := Prod.fst) hp
   exact .inl ⟨p,h1,h2,hx⟩
  ·rename_i hp
   rw [List.find?_eq_none] at hp
   exact .inr ⟨fun p hp' e=>hp p hp' (by rw [e]; exact Nat.beq_refl _),hx⟩
 have ko : ∀ t x,lL H.ob mo H'.ob t = some x → (∃ p,p ∈ mo ∧ p.1 = t ∧ H'.ob p.2 = some x) ∨ ((∀ p ∈ mo,p.1 ≠ t) ∧ H.ob t = some x) := by
  intro t x hx
  unfold lL at hx
  split at hx
  ·rename_i p hp
   obtain ⟨h1,h2⟩ := qa (f := Prod.fst) hp
   exact .inl ⟨p,h1,h2,hx⟩
  ·rename_i hp
   rw [List.find?_eq_none] at hp
   exact .inr ⟨fun p hp' e=>hp p hp' (by rw [e]; exact Nat.beq_refl _),hx⟩
 -- what was kept is not among what was handed over
 have nb : ∀ t x,(∀ p ∈ mb,p.1 ≠ t) → H.bx t = some x → x.b ∉ hM H mb mo := by
  intro t x hn hx hm
  rcases mR hm with ⟨p,y,hp,hy,e⟩ | ⟨p,y,hp,hy,e⟩
  ·exact hn p hp (h.dbox _ _ y x hy hx e)
  ·exact h.dmix _ _ x y hx hy e
 have no : ∀ t x b,(∀ p ∈ mo,p.1 ≠ t) → H.ob t = some x → x.g.blk = some b → b ∉ hM H mb mo := by
  intro t x b hn hx hb hm
  rcases mR hm with ⟨p,y,hp,hy,e⟩ | ⟨p,y,hp,hy,e⟩
  ·exact h.dmix _ _ y x hy hx (by rw [hb,e])
  ·exact hn p hp (h.dobj _ _ y x b hy hx e hb)
 have mb' : ∀ t x,H'.bx t = some x → w.heap.size ≤ x.b ∨ x.b ∈ hM H mb mo := fun t x hx=>(h'.boxes t x hx).1
 have mo' : ∀ t x b,H'.ob t = some x → x.g.blk = some b → w.heap.size ≤ b ∨ b ∈ hM H mb mo := by
  intro t x b hx hb
  obtain ⟨_,_,_,_,h4⟩ := h'.objs t x hx
  rcases h4 with ⟨h5,_⟩ | ⟨b',_,h5,h6,_⟩
  ·rw [h5] at hb; cases hb
  ·rw [h5] at hb; cases hb; exact h6
 have bz : ∀ t x b,H.ob t = some x → x.g.blk = some b → b < w.heap.size := fun t x b hx hb=>h.obj_lt hx hb
 have snd_eq : ∀ {m : List (Nat × Nat)},dg (m.map Prod.snd) = true → ∀ {p q : Nat × Nat},p ∈ m → q ∈ m → p.2 = q.2 → p = q := by
  intro m hd p q hp hq e
  have h1 := go (f := Prod.snd) hd hp
  have h2 := go (f := Prod.snd) hd hq
  rw [e] at h1
  rw [h1] at h2
  exact Option.some.inj h2
 refine ⟨h'.mem,Mem.le_trans h.ext h'.ext,?_,h'.os.trans h.os,h'.tape.trans h.tape,h'.output.trans h.output,Nat.le_trans h.size h'.size,?_,?_,?_,?_,?_,?_⟩
 ·intro b o v hm
  rcases h'.new b o v hm with h1 | h1
  ·exact h.new b o v h1
  ·exact .inr (hup b h1)
 ·intro b hb hn
  have hno : b ∉ hM H mb mo := fun hm=>by
   rcases hown b hm with h1 | h1
   ·omega
   ·exact hn h1
  exact (h'.frame b (Nat.lt_of_lt_of_le hb h.size) hno).trans (h.frame b hb hn)
 ·intro t x hx
  rcases kb t x hx with ⟨p,hp,_,hx⟩ | ⟨hn,hx⟩
  ·obtain ⟨h1,h2,h3⟩ := h'.boxes _ _ hx
   exact ⟨hup _ h1,h2,h3⟩
  ·have hno := nb t x hn hx
   exact (h.boxes t x hx).keep h'.ext (fun o ho=>hnone _ o (h.box_lt hx) hno ho) (h'.frame _ (h.box_lt hx) hno)
 ·intro t x hx
  rcases ko t x hx with ⟨p,hp,_,hx⟩ | ⟨hn,hx⟩
  ·obtain ⟨i,h1,h2,h3,h4⟩ := h'.objs _ _ hx
   refine ⟨i,h1,h2,h3,?_⟩
   rcases h4 with h4 | ⟨b,cur,h5,h6,h7⟩
   ·exact .inl h4
   ·exact .inr ⟨b,cur,h5,hup _ h6,h7⟩
  ·exact (h.objs t x hx).keep h'.ext (fun b o hb ho=>hnone _ o (h.obj_lt hx hb) (no t x b hn hx hb) ho) (fun b hb=>h'.frame _ (h.obj_lt hx hb) (no t x b hn hx hb))
 ·intro t t' x x' hx hx' hb
  rcases kb t x hx with ⟨p,hp,e,hx⟩ | ⟨hn,hx⟩ <;> rcases kb t' x' hx' with ⟨q,hq,e',hx'⟩ | ⟨hn',hx'⟩
  ·have := snd_eq hb2 hp hq (h'.dbox _ _ x x' hx hx' hb)
   rw [← e,← e',this]
  ·rcases mb' _ _ hx with h1 | h1
   ·have := h.box_lt hx'; omega
   ·exact absurd (hb ▸ h1) (nb t' x' hn' hx')
  ·rcases mb' _ _ hx' with h1 | h1
   ·have := h.box_lt hx; omega
   ·exact absurd (hb ▸ h1) (nb t x hn hx)
  ·exact h.dbox t t' x x' hx hx' hb
 ·intro t t' x x' b hx hx' hb hb'
  rcases ko t x hx with ⟨p,hp,e,hx⟩ | ⟨hn,hx⟩ <;> rcases ko t' x' hx' with ⟨q,hq,e',hx'⟩ | ⟨hn',hx'⟩
  ·have := snd_eq ho2 hp hq (h'.dobj _ _ x x' b hx hx' hb hb')
   rw [← e,← e',this]
  ·rcases mo' _ _ b hx hb with h1 | h1
   ·have := h.obj_lt hx' hb'; omega
   ·exact absurd h1 (no t' x' b hn' hx' hb')
  ·rcases mo' _ _ b hx' hb' with h1 | h1
   ·have := h.obj_lt hx hb; omega
   ·exact absurd h1 (no t x b hn hx hb)
  ·exact h.dobj t t' x x' b hx hx' hb hb'
 ·intro t t' x x' hx hx' hb
  rcases kb t x hx with ⟨p,hp,e,hx⟩ | ⟨hn,hx⟩ <;> rcases ko t' x' hx' with ⟨q,hq,e',hx'⟩ | ⟨hn',hx'⟩
  ·exact h'.dmix _ _ x x' hx hx' hb
  ·rcases mb' _ _ hx with h1 | h1
   ·have := h.obj_lt hx' hb; omega
   ·exact no t' x' _ hn' hx' hb h1
  ·rcases mo' _ _ _ hx' hb with h1 | h1
   ·have := h.box_lt hx; omega
   ·exact nb t x hn hx h1
  ·exact h.dmix t t' x x' hx hx' hb
theorem eff_callH {o : Oper} {ev : Operand → PV} {H : Heap} {fx : Operand} {av0 : Array Operand} {ts : Array TypeId} (ho : o.op = .call { callee := .value fx,args := av0,argTypes := ts }) {g : FuncId} {caps : List PV}
  (hf : ev fx = .fn g caps) (hcall : ∀ vs w,(callFunc g vs).run P w = .ok (.enter g vs) w) (mb mo : List (Nat × Nat)) (hb1 : dg (mb.map Prod.fst) = true) (hb2 : dg (mb.map Prod.snd) = true) (ho1 : dg (mo.map Prod.fst) = true) (ho2 : dg (mo.map Prod.snd) = true)
  {args : List PV} (hle : fu P (av0.toList.map ev ++ caps) args) {R : PV → Heap → Prop} (hc : PH P g args ⟨nj H.bx mb,lJ H.ob mo⟩ R)
  {K : PV → Heap → Prop} (hk : ∀ u H',R u H' → K u ⟨backB H.bx mb H'.bx,lL H.ob mo H'.ob⟩) : Eff P o ev H K := by
 intro C M a w next Q hi he hn
 have hfr := he fx (by rw [ho]; simp [Op.operands,Call.operands])
 rw [hf] at hfr
 simp only [Rep] at hfr
 obtain ⟨cs,hv,hcaps⟩ := hfr
 have hargs : aA P M true (av0.toList.map ev) (av0.map a.eval).toList := by
  simpa using lI av0.toList fun x hx=>he x (by rw [ho]; simp_all [Op.operands,Call.operands])
 have hrep := hle M _ (hargs.append hcaps)
 have hrun : (execOp a.eval o).run P w = .ok (.enter g (av0.map a.eval ++ cs)) w := by
  simp [execOp,ho,resolve,hv,Deferred.ofValue,invoke,hcall]
 unfold Oper.wp
 rw [hrun]
 simp only [Oper.upon]
 refine (hc w M (hM H mb mo) (hi.gl hi.ownMine) _ (hi.enterH hb1 ho1) (by simpa using hrep)).mono ?_
 rintro e w' ⟨v,u,H',M',rfl,hR,hi',hr⟩
 exact hn v u _ M' w' (hk u H' hR) hi'.ext (hi.afterH hb1 hb2 ho1 ho2 hi') hr
end
section
variable {P : Program} {ops : Array Oper} {rest : List Oper} {o : Oper} {n : Nat} {s s' : Nat → PV} {bx bx1 : Nat → Option Box} {ob ob1 : Nat → Option Obj} {K : PState → Prop} {T : TT} {rb : RB} {k : Nat} {L : List Nat}
theorem ew (hg : aS ops s o = some true) {fx : Operand} {av0 : Array Operand} {ts : Array TypeId} (ho : o.op = .call { callee := .value fx,args := av0,argTypes := ts }) {g : FuncId} {caps : List PV}
  (hf : evS s fx = .fn g caps) (hcall : ∀ vs w,(callFunc g vs).run P w = .ok (.enter g vs) w) (mb mo : List (Nat × Nat)) (hb1 : dg (mb.map Prod.fst) = true) (hb2 : dg (mb.map Prod.snd) = true) (ho1 : dg (mo.map Prod.fst) = true) (ho2 : dg (mo.map Prod.snd) = true)
  {args : List PV} (hle : fu P (av0.toList.map (evS s) ++ caps) args) {Hin : Heap} (hin : Hin = ⟨nj bx mb,lJ ob mo⟩) {R : PV → Heap → Prop} (hc : PH P g args Hin R)
  (h : ∀ u H',R u H' → ∃ s',putD n s o.dst u = some s' ∧ Ao P ops rest ⟨n,s',backB bx mb H'.bx,lL ob mo H'.ob⟩ K) : Ao P ops (o :: rest) ⟨n,s,bx,ob⟩ K :=
 ek hg (eff_callH ho hf hcall mb mo hb1 hb2 ho1 ho2 hle (hin ▸ hc) h)
theorem PLe2.own {t t' : Nat} {g : OwnRef} {l l' : Nat} (h : l = l') : PLe2 P (.own t g l) (.own t' g l') := by
 subst h
 intro M s x hx
 simpa only [Rep] using hx
theorem PLe2.boxT {t t' b o : Nat} : PLe2 P (.box t b o) (.box t' b o) := by
 intro M s x hx
 simpa only [Rep] using hx
theorem mT {fn : Func} {R : PV → Heap → Prop} {ks : List KI} {T : TT} (hT : T.Ok P) {rs : Array ResultVar} (hres : fn.results = rs) {ps : List PV} (h : lb T ⟨n,s,bx,ob⟩ rs.toList ps) {u : PV} (hu : PLe P (lP ps) u) (hR : R u ⟨bx,ob⟩) :
  V P fn R (.code .ret :: ks) ⟨n,s,bx,ob⟩ := V.ret hT hres h hu ⟨fun _ _ hx=>hx,fun _ _ hx=>hx⟩ hR
theorem lH {fn : Func} {R : PV → Heap → Prop} (hres : fn.results = #[]) {u : PV} (hu : PLe P (.tup []) u) (hR : R u ⟨bx,ob⟩) : V P fn R [] ⟨n,s,bx,ob⟩ := by
 intro C M a w hi
 refine retP.ofN hi fun C w hi=>?_
 have hr : (results fn a.tmps).run P w = .ok (.tuple #[]) w := by
  rw [results_eq hres]
  simp
 exact ⟨.tuple #[],hr,.tuple #[],u,⟨bx,ob⟩,M,rfl,hR,hi.2,hu M _ (by simp [Rep,aA])⟩
end
end
end Go.Ab

namespace Go.Ab
noncomputable section
open Classical in
def ja {β : Type} (F : Nat → Option β) : Option β :=
 if h : ∃ r,∃ n,∀ m,n ≤ m → F m = some r then some h.choose else none
theorem jR {β : Type} {F : Nat → Option β} {r : β} (h : ja F = some r) : ∃ n,F n = some r := by
 unfold ja at h
 split at h
 ·next hx =>
  obtain ⟨n,hn⟩ := hx.choose_spec
  exact ⟨n,by rw [hn n (Nat.le_refl n)]; exact h⟩
 ·cases h
theorem po {β : Type} {F : Nat → Option β} {r : β} (n : Nat) (h : ∀ m,n ≤ m → F m = some r) : ja F = some r := by
 have hx : ∃ r,∃ n,∀ m,n ≤ m → F m = some r := ⟨r,n,h⟩
 unfold ja
 rw [dif_pos hx]
 obtain ⟨k,hk⟩ := hx.choose_spec
 have e1 := hk (max n k) (Nat.le_max_right n k)
 have e2 := h (max n k) (Nat.le_max_left n k)
 rw [← e1,e2]
theorem limN_ev {β : Type} {F : Nat → Option β} {r : β} (h : ja F = some r) : ∃ n,∀ m,n ≤ m → F m = some r := by
 unfold ja at h
 split at h
 ·next hx =>
  obtain ⟨n,hn⟩ := hx.choose_spec
  exact ⟨n,fun m hm=>by rw [hn m hm]; exact h⟩
 ·cases h
end
end Go.Ab

namespace Go.Ab
noncomputable section
def cutI {α : Type} (xs : List α) (m : Int) : Option (List α) := if 0 ≤ m ∧ m.toNat ≤ xs.length then some (xs.take m.toNat) else none
theorem cutI_some {α : Type} {xs ys : List α} {m : Int} (h : cutI xs m = some ys) : 0 ≤ m ∧ m.toNat ≤ xs.length ∧ ys = xs.take m.toNat := by
 unfold cutI at h
 split at h
 ·rename_i h0; exact ⟨h0.1,h0.2,(Option.some.inj h).symm⟩
 ·cases h
theorem rp {α : Type} {f : α → List PV} {xs ys : List α} {j : Nat} {x : α} {g : OwnRef} (ho : xs.map f ≠ [] → ∃ b,g.blk = some b) (hl : (xs.map f).length = (ys.map f).length) (h : ys[j]? = some x) : ∃ b,g.blk = some b := by
 refine ho fun e=>?_
 have := (zg.1 h).1
 have h0 : ys.length = 0 := by
  rw [e] at hl
  simpa using hl.symm
 omega
def delI {α : Type} (xs : List α) (i j : Int) : Option (List α) := if 0 ≤ i ∧ i ≤ j ∧ j.toNat ≤ xs.length then some (xs.take i.toNat ++ xs.drop j.toNat) else none
theorem delI_some {α : Type} {xs ys : List α} {i j : Int} (h : delI xs i j = some ys) : 0 ≤ i ∧ i ≤ j ∧ j.toNat ≤ xs.length ∧ ys = xs.take i.toNat ++ xs.drop j.toNat := by
 unfold delI at h
 split at h
 ·rename_i h0; exact ⟨h0.1,h0.2.1,h0.2.2,(Option.some.inj h).symm⟩
 ·cases h
def OwnRef.sub (g : OwnRef) (k lo hi mx : Nat) : Value := .slice (if mx = lo then g.blk.map (fun b=>⟨b,0,none⟩) else (g.blk.map fun b=>(⟨b,0,none⟩ : Addr)).map (·.add (lo * k))) (hi - lo) (mx - lo)
section
variable {P : Program} {T : TT}
def mF (ev : Operand → PV) (o : Option Operand) (dflt n : Nat) : Prop := match o with
 | none=>n = dflt
 | some x=>∃ kk z,ev x = .val (.int kk z) ∧ z = (n : Int)
theorem detS_subV (hT : T.Ok P) {o : Oper} {ev : Operand → PV} {H : Heap} {t : TypeId} {x : Operand} {lo hi mx : Option Operand} (ho : o.op = .slice t x lo hi mx) {ti ei : TInfo} {e : TypeId} (hti : T.get t = some ti) (hd : ti.desc = .slice e) (hei : T.get e = some ei)
  {tag : Nat} {g : OwnRef} {len : Nat} (hx : ev x = .own tag g len) {l h m : Nat} (hl : mF ev lo 0 l) (hh : mF ev hi len h) (hm : mF ev mx g.cap m) (hs : mx.isSome = true → hi.isSome = true) (h1 : l ≤ h) (h2 : h ≤ m) (h3 : m ≤ g.cap) :
  DetS P o ev H (.val (g.sub ei.size l h m)) := by
 intro C M a w _ he
 have hxr := he x (by rw [ho]; cases lo <;> cases hi <;> cases mx <;> simp [Op.operands])
 rw [hx] at hxr
 simp only [Rep] at hxr
 have hu := (hT.get hti).und
 rw [hd] at hu
 refine ⟨g.sub ei.size l h m,?_,by simp only [Rep]⟩
 have hbnd : ∀ (z y : Nat) (kk : IntKind) (c : BoundsCode),z ≤ y → (Instr.sliceBound (.int kk (z : Int)) y c).run P w = .ok z w := by
  intro z y kk c hzy
  have : (0 : Int) ≤ (z : Int) ∧ (z : Int) ≤ (y : Int) := ⟨by omega,by omega⟩
  simp [Instr.sliceBound,asIntOf,hzy]
 have get : ∀ y,y ∈ lo ∨ y ∈ hi ∨ y ∈ mx → Rep P M true (ev y) (a.eval y) := by
  intro y hy
  refine he y ?_
  rw [ho]
  clear he hl hh hm hs ho
  cases lo <;> cases hi <;> cases mx <;> simp [Op.operands] at hy ⊢ <;> (first | exact .inr (hy.imp Eq.symm Eq.symm) | exact .inr (hy.imp Eq.symm (Or.imp Eq.symm Eq.symm)) | exact .inr hy.symm | (rcases hy with h | h | h <;> simp [h]) | (rcases hy with h | h <;> simp [h]))
 have hsz := (hT.get hei).rsize w
 have key : ∀ (lv hv mv : Option Value),(match lv with | none=>l = 0 | some v=>∃ kk,v = .int kk (l : Int)) → (match hv with | none=>h = len | some v=>∃ kk,v = .int kk (h : Int)) →
   (match mv with | none=>m = g.cap | some v=>∃ kk,v = .int kk (m : Int)) → (mv.isSome = true → hv.isSome = true) → (Instr.slice t (g.val len) lv hv mv).run P w = .ok (g.sub ei.size l h m) w := by
  intro lv hv mv p1 p2 p3 p4
  have b : (Instr.sliceBounds true len g.cap lv hv mv).run P w = .ok (l,h,m) w := by
   cases mv with
   | none =>
    simp only at p3
    subst p3
    cases hv with
    | none =>
     simp only at p2
     subst p2
     cases lv with
     | none=>simp only at p1; subst p1; simp [Instr.sliceBounds]
     | some v=>obtain ⟨kk,rfl⟩ := p1; simp [Instr.sliceBounds,hbnd _ _ _ _ h1]
    | some v' =>
     obtain ⟨kk',rfl⟩ := p2
     cases lv with
     | none=>simp only at p1; subst p1; simp [Instr.sliceBounds,hbnd _ _ _ _ h2]
     | some v=>obtain ⟨kk,rfl⟩ := p1; simp [Instr.sliceBounds,hbnd _ _ _ _ h1,hbnd _ _ _ _ h2]
   | some v2 =>
    obtain ⟨k2,rfl⟩ := p3
    cases hv with
    | none=>exact absurd (p4 rfl) (by simp)
    | some v' =>
     obtain ⟨kk',rfl⟩ := p2
     cases lv with
     | none=>simp only at p1; subst p1; simp [Instr.sliceBounds,hbnd _ _ _ _ h2,hbnd _ _ _ _ h3]
     | some v=>obtain ⟨kk,rfl⟩ := p1; simp [Instr.sliceBounds,hbnd _ _ _ _ h1,hbnd _ _ _ _ h2,hbnd _ _ _ _ h3]
  simp only [Instr.slice,OwnRef.val,run_underlying hu,Sem.run_bind,Result.andThen_ok,b,hsz]
  rfl
 have gl : ∀ (oo : Option Operand) (df n : Nat),(∀ y,y ∈ oo → Rep P M true (ev y) (a.eval y)) → mF ev oo df n → (match oo.map a.eval with | none=>n = df | some v=>∃ kk,v = .int kk (n : Int)) := by
  intro oo df n hr ha
  cases oo with
  | none=>exact ha
  | some y =>
   obtain ⟨kk,z,e1,rfl⟩ := ha
   have := hr y rfl
   rw [e1] at this
   simp only [Rep] at this
   exact ⟨kk,this⟩
 have := key (lo.map a.eval) (hi.map a.eval) (mx.map a.eval) (gl lo 0 l (fun y hy=>get y (.inl hy)) hl) (gl hi len h (fun y hy=>get y (.inr (.inl hy))) hh) (gl mx g.cap m (fun y hy=>get y (.inr (.inr hy))) hm) (by simpa using hs)
 simp only [execOp,ho,Instr.sliceAt,hxr.2]
 rw [Sem.run_bind,Sem.run_bind,run_underlying hu]
 simp only [Result.andThen_ok]
 rw [this]
 rfl
theorem eff_appendIn (hT : T.Ok P) {o : Oper} {ev : Operand → PV} {H : Heap} {x y : Operand} {t : TypeId} (ho : o.op = .call { callee := .builtin .append,args := #[x,y],argTypes := #[t,t] }) {ti ei : TInfo} {e : TypeId} (hti : T.get t = some ti) (hd : ti.desc = .slice e) (hei : T.get e = some ei)
  {tag : Nat} {g : OwnRef} {rows : List (List PV)} (hob : H.ob tag = some ⟨g,e,rows,true⟩) {p q : Nat} (hpq : p ≤ q) (hq : q ≤ rows.length) (hx : ev x = .val (g.sub ei.size 0 p g.cap)) (hy : ev y = .val (g.sub ei.size q rows.length g.cap))
  {K : PV → Heap → Prop} (hk : K (.own tag g (rows.take p ++ rows.drop q).length) ⟨H.bx,upd H.ob tag (some ⟨g,e,rows.take p ++ rows.drop q,true⟩)⟩) : Eff P o ev H K := by
 intro C M a w next Q hi he hn
 have hxr := he x (by rw [ho]; simp [Op.operands,Call.operands])
 have hyr := he y (by rw [ho]; simp [Op.operands,Call.operands])
 rw [hx] at hxr
 rw [hy] at hyr
 simp only [Rep] at hxr hyr
 obtain ⟨i,g1,g2,g3,g4⟩ := hi.objs tag _ hob
 obtain ⟨i',g5,g6,_,_⟩ := (hT.get hei).info
 simp only at g1 g2 g3 g4
 rw [g1] at g5
 cases g5
 have hu := (hT.get hti).und
 rw [hd] at hu
 have hbase : (if g.cap = 0 then g.blk.map (fun b=>(⟨b,0,none⟩ : Addr)) else (g.blk.map fun b=>(⟨b,0,none⟩ : Addr)).map (·.add (0 * ei.size))) = g.blk.map fun b=>⟨b,0,none⟩ := by
  split
  ·rfl
  ·rw [Nat.zero_mul]
   cases g.blk <;> simp [Addr.add]
 have hlen : (rows.take p ++ rows.drop q).length = p + (rows.length - q) := by simp; omega
 have fin : ∀ w',(Builtin.append_ #[t,t] o.type #[g.sub ei.size 0 p g.cap,g.sub ei.size q rows.length g.cap]).run P w = .ok (g.val (p + (rows.length - q))) w' →
   InvH P C M ⟨H.bx,upd H.ob tag (some ⟨g,e,rows.take p ++ rows.drop q,true⟩)⟩ w' → Oper.wp P o a w next Q := by
  intro w' hr hi'
  have hrun' : (execOp a.eval o).run P w = .ok (.value (g.val (rows.take p ++ rows.drop q).length)) w' := by
   rw [hlen]
   simp only [execOp,ho,resolve,Sem.run_bind,Sem.run_pure,Result.andThen_ok,invoke,builtin,List.map_toArray,List.map_cons,List.map_nil,hxr,hyr]
   rw [hr]
   rfl
  unfold Oper.wp
  rw [hrun']
  exact hn _ _ _ M w' hk (Mem.le_refl M) hi' (by simp [Rep])
 have hcap : rows.length ≤ g.cap := by
  rcases g4 with ⟨_,b,_⟩ | ⟨_,_,_,_,_,_,h9,_⟩
  ·rw [b]; simp
  ·exact h9
 by_cases h0 : rows.length - q = 0
 ·refine fin w ?_ ?_
  ·have e1 : g.sub ei.size 0 p g.cap = .slice (g.blk.map fun b=>⟨b,0,none⟩) p g.cap := by unfold OwnRef.sub; rw [hbase]; simp
   have e2 : g.sub ei.size q rows.length g.cap = .slice (if g.cap = q then g.blk.map (fun b=>⟨b,0,none⟩) else (g.blk.map fun b=>(⟨b,0,none⟩ : Addr)).map (·.add (q * ei.size))) 0 (g.cap - q) := by unfold OwnRef.sub; rw [h0]
   rw [e1,e2,oS (w := w) t o.type e i hu g1 _ _ p g.cap _ (by omega),h0]
   rfl
  ·have e1 : rows.take p ++ rows.drop q = rows.take p := by rw [List.drop_of_length_le (by omega)]; simp
   rw [e1]
   exact hi.cutO hob p
 ·rcases g4 with ⟨_,hn',_⟩ | ⟨b,cur,hb,hm,hcur,hcs,hlc,hcm,hcr,h1c,hw1,hw2⟩
  ·rw [hn'] at h0; simp at h0
  ·have hqc : ¬ g.cap = q := by omega
   have hcs2 : cur.toList.length = g.cap * i.size := by rw [Array.length_toList]; exact hcs
   have e1 : g.sub ei.size 0 p g.cap = .slice (some ⟨b,0,none⟩) p g.cap := by unfold OwnRef.sub; rw [hbase,hb]; simp
   have e2 : g.sub ei.size q rows.length g.cap = .slice (some ⟨b,q * i.size,none⟩) (rows.length - q) (g.cap - q) := by unfold OwnRef.sub; rw [zy hqc,hb,g6]; simp [gF]
   have hflat : ∀ l : List (List PV),(∀ r ∈ l,r.length = i.size) → l.flatten.length = l.length * i.size := by
    intro l
    induction l with
    | nil=>simp
    | cons r l ih=>intro hl; simp [ih fun r hr=>hl r (by simp [hr]),hl r (by simp),Nat.add_mul]; omega
   have hold : (cur.toList.take (rows.length * i.size)).length = rows.length * i.size := by rw [hcr.length,hflat rows g3]
   have hcl : rows.length * i.size ≤ cur.size := by rw [hcs]; exact Nat.mul_le_mul_right _ hlc
   have hmulq : q * i.size ≤ rows.length * i.size := Nat.mul_le_mul_right _ hq
   have hmulp : p * i.size ≤ q * i.size := Nat.mul_le_mul_right _ hpq
   obtain ⟨news,hnews⟩ : ∃ news,news = (cur.toList.take (rows.length * i.size)).drop (q * i.size) := ⟨_,rfl⟩
   have hnl : news.length = (rows.length - q) * i.size := by rw [hnews,List.length_drop,hold,Nat.sub_mul]
   have hac : ∀ j u,news[j]? = some u → w.cell? ((⟨b,q * i.size,none⟩ : Addr).add j) = some u := by
    intro j u hj
    rw [gF,cell_of_row w b (q * i.size + j) cur e (0,0) hcur]
    rw [hnews,List.getElem?_drop,List.getElem?_take] at hj
    split at hj
    ·simpa using hj
    ·cases hj
   have hone : ∀ u ∈ news,u.oneCell' = true := fun u hu'=>h1c u (by rw [hnews] at hu'; exact List.mem_of_mem_drop hu')
   have hsum : (p + (rows.length - q)) * i.size = p * i.size + (rows.length - q) * i.size := Nat.add_mul _ _ _
   have hsub : (rows.length - q) * i.size = rows.length * i.size - q * i.size := Nat.sub_mul _ _ _
   have hfit : p * i.size + news.length ≤ cur.size := by rw [hnl]; omega
   have hr := run_append_room (P := P) w t o.type e i hu g1 b p g.cap cur hcur ⟨b,q * i.size,none⟩ (rows.length - q) (g.cap - q) news hnl hac hone (by omega) hfit
   have htk : (rows.take p).flatten = rows.flatten.take (p * i.size) := by
    have e3 : rows.flatten = (rows.take p).flatten ++ (rows.drop p).flatten := by rw [← List.flatten_append,List.take_append_drop]
    have e4 : (rows.take p).flatten.length = p * i.size := by rw [hflat _ fun r hr=>g3 r (List.mem_of_mem_take hr),List.length_take,Nat.min_eq_left (by omega)]
    rw [e3,← e4,List.take_left]
   have hdk : (rows.drop q).flatten = rows.flatten.drop (q * i.size) := by
    have e3 : rows.flatten = (rows.take q).flatten ++ (rows.drop q).flatten := by rw [← List.flatten_append,List.take_append_drop]
    have e4 : (rows.take q).flatten.length = q * i.size := by rw [hflat _ fun r hr=>g3 r (List.mem_of_mem_take hr),List.length_take,Nat.min_eq_left (by omega)]
    rw [e3,← e4,List.drop_left]
   have hcp : cur.toList.take (p * i.size) = (cur.toList.take (rows.length * i.size)).take (p * i.size) := by rw [List.take_take,Nat.min_eq_left (by omega)]
   have hlist : (cur.toList.take (p * i.size) ++ news ++ cur.toList.drop (p * i.size + news.length)).take ((p + (rows.length - q)) * i.size) = cur.toList.take (p * i.size) ++ news := by
    rw [show (p + (rows.length - q)) * i.size = (cur.toList.take (p * i.size) ++ news).length from by
     rw [List.length_append,List.length_take,hnl,hsum,Array.length_toList,Nat.min_eq_left (by omega)]]
    exact List.take_left
   refine fin (w.setRow b (cur.toList.take (p * i.size) ++ news ++ cur.toList.drop (p * i.size + news.length)).toArray) (by rw [e1,e2,hr]; simp [OwnRef.val,hb]) (hi.set_obj tag _ hob b hb (rows.take p ++ rows.drop q) true (cur.toList.take (p * i.size) ++ news ++ cur.toList.drop (p * i.size + news.length)).toArray i g1 ?_ ?_ ?_ ?_ hcm ?_ ?_ ?_ (fun _=>hw1 trivial) (fun o' _=>hw1 trivial o'))
   ·rw [hlen]
    exact Nat.le_trans (Nat.mul_le_mul_right _ (by omega)) g2
   ·intro r hr'
    rcases List.mem_append.1 hr' with h | h
    ·exact g3 r (List.mem_of_mem_take h)
    ·exact g3 r (List.mem_of_mem_drop h)
   ·have e9 : (cur.toList.take (p * i.size) ++ news ++ cur.toList.drop (p * i.size + news.length)).length = g.cap * i.size := by
     rw [List.length_append,List.length_append,List.length_take,List.length_drop,hcs2]
     have : p * i.size + news.length ≤ g.cap * i.size := by rw [← hcs]; exact hfit
     omega
    simpa using e9
   ·rw [hlen]; exact (by omega : p + (rows.length - q) ≤ g.cap)
   ·rw [hlen]
    simp only
    rw [hlist,List.flatten_append,htk,hdk,hcp,hnews]
    exact (hcr.take _).append (hcr.drop _)
   ·rw [hlen]
    simp only
    rw [hlist]
    intro v hv
    rcases List.mem_append.1 hv with h | h
    ·rw [hcp] at h; exact h1c v (List.mem_of_mem_take h)
    ·exact hone v h
   ·intro o' v' hm'
    rw [hw1 trivial o'] at hm'
    cases hm'
theorem eff_clearB (hT : T.Ok P) {o : Oper} {ev : Operand → PV} {H : Heap} {x : Operand} {t : TypeId} (ho : o.op = .call { callee := .builtin .clear,args := #[x],argTypes := #[t] }) {ti ei : TInfo} {e : TypeId} (hti : T.get t = some ti) (hd : ti.desc = .slice e) (hei : T.get e = some ei)
  (hz : Nat.beq ei.zero.cells.size ei.size = true) (h1 : (cT ei).all PV.one = true) {tag : Nat} {g : OwnRef} {rows : List (List PV)} (hob : H.ob tag = some ⟨g,e,rows,true⟩) {p q m : Nat} (hp : rows.length ≤ p) (hpq : p ≤ q) (hq : q ≤ m) (hm : m ≤ g.cap)
  (hx : ev x = .val (g.sub ei.size p q m)) {K : PV → Heap → Prop} (hk : K (.tup []) H) : Eff P o ev H K := by
 intro C M a w next Q hi he hn
 have hxr := he x (by rw [ho]; simp [Op.operands,Call.operands])
 rw [hx] at hxr
 simp only [Rep] at hxr
 obtain ⟨i,g1,g2,g3,g4⟩ := hi.objs tag _ hob
 obtain ⟨i',g5,g6,_,hzero⟩ := (hT.get hei).info
 simp only at g1 g2 g3 g4
 rw [g1] at g5
 cases g5
 have hu := (hT.get hti).und
 rw [hd] at hu
 have hself : upd H.ob tag (some ⟨g,e,rows,true⟩) = H.ob := pX _ _ _ hob
 have fin : ∀ w',(Builtin.clear_ #[t] o.type #[g.sub ei.size p q m]).run P w = .ok (.tuple #[]) w' → InvH P C M ⟨H.bx,upd H.ob tag (some ⟨g,e,rows,true⟩)⟩ w' → Oper.wp P o a w next Q := by
  intro w' hr hi'
  have hrun' : (execOp a.eval o).run P w = .ok (.value (.tuple #[])) w' := by
   simp only [execOp,ho,resolve,Sem.run_bind,Sem.run_pure,Result.andThen_ok,invoke,builtin,List.map_toArray,List.map_cons,List.map_nil,hxr]
   rw [hr]
   rfl
  unfold Oper.wp
  rw [hrun']
  rw [hself] at hi'
  exact hn _ _ _ M w' hk (Mem.le_refl M) hi' (by simp [Rep,aA])
 by_cases h0 : q - p = 0
 ·refine fin w ?_ (by rw [hself]; exact hi)
  unfold OwnRef.sub
  rw [h0]
  split <;> (cases g.blk <;> simp [Builtin.clear_,run_underlying hu])
 ·rcases g4 with ⟨_,hn',hc0⟩ | ⟨b,cur,hb,hmn,hcur,hcs,hlc,hcm,hcr,h1c,hw1,hw2⟩
  ·omega
  ·have hz1 := Nat.eq_of_beq_eq_true hz
   have hcs' : cur.size = g.cap * i.size := hcs
   have hcs2 : cur.toList.length = g.cap * i.size := by rw [Array.length_toList]; exact hcs
   have e1 : g.sub ei.size p q m = .slice (some ⟨b,p * i.size,none⟩) (q - p) (m - p) := by unfold OwnRef.sub; rw [zy (by omega),hb,g6]; simp [gF]
   have hzl : (cT ei).length = i.size := by simp [cT,hz1,g6]
   have hzc : (Builtin.zeroCells ei.zero.cells (q - p)).toList = (List.replicate (q - p) ei.zero.cells.toList).flatten := by
    unfold Builtin.zeroCells
    exact ox ei.zero.cells (q - p)
   have hzs : (Builtin.zeroCells ei.zero.cells (q - p)).toList.length = (q - p) * i.size := by rw [hzc]; simp [hz1,g6]
   have hrep : aA P M false (List.replicate (q - p) (cT ei)).flatten (List.replicate (q - p) ei.zero.cells.toList).flatten := kX (kL _) (q - p)
   have hone : ∀ v ∈ (Builtin.zeroCells ei.zero.cells (q - p)).toList,v.oneCell' = true := by
    rw [hzc]
    refine aA.oneCell ?_ hrep
    rw [List.all_eq_true]
    intro x hx
    rw [List.mem_flatten] at hx
    obtain ⟨l,hl,hx⟩ := hx
    rw [List.eq_of_mem_replicate hl] at hx
    exact List.all_eq_true.1 h1 x hx
   have hmq : q * i.size ≤ g.cap * i.size := Nat.mul_le_mul_right _ (by omega)
   have hmp : rows.length * i.size ≤ p * i.size := Nat.mul_le_mul_right _ hp
   have hsub : (q - p) * i.size = q * i.size - p * i.size := Nat.sub_mul _ _ _
   have hpq' : p * i.size ≤ q * i.size := Nat.mul_le_mul_right _ hpq
   have hst := run_storeCells_at P b (p * i.size) e (Builtin.zeroCells ei.zero.cells (q - p)).toList 0 cur w hcur (by rw [hzs]; omega) hone
   simp only [Nat.add_zero] at hst
   obtain ⟨k,hk1⟩ : ∃ k,q - p = k + 1 := ⟨q - p - 1,by omega⟩
   have htake : (cur.toList.take (p * i.size) ++ (Builtin.zeroCells ei.zero.cells (q - p)).toList ++ cur.toList.drop (p * i.size + (Builtin.zeroCells ei.zero.cells (q - p)).toList.length)).take (rows.length * i.size) = cur.toList.take (rows.length * i.size) := by
    rw [List.append_assoc,List.take_append_of_le_length (by rw [List.length_take,hcs2]; omega),List.take_take,Nat.min_eq_left hmp]
   refine fin _ ?_ (hi.set_obj tag _ hob b hb rows true (cur.toList.take (p * i.size) ++ (Builtin.zeroCells ei.zero.cells (q - p)).toList ++ cur.toList.drop (p * i.size + (Builtin.zeroCells ei.zero.cells (q - p)).toList.length)).toArray i g1 g2 g3 ?_ hlc hcm ?_ ?_ ?_ (fun _=>hw1 trivial) (fun o' _=>hw1 trivial o'))
   ·rw [e1]
    have hzv : (zeroValue e).run P w = .ok ei.zero w := by simp [zeroValue,typeInfo,g1,hzero]
    rw [hk1] at hst ⊢
    simp [Builtin.clear_,run_underlying hu,hzv]
    rw [hst]
    simp
   ·have e9 : (cur.toList.take (p * i.size) ++ (Builtin.zeroCells ei.zero.cells (q - p)).toList ++ cur.toList.drop (p * i.size + (Builtin.zeroCells ei.zero.cells (q - p)).toList.length)).length = g.cap * i.size := by
     rw [List.length_append,List.length_append,List.length_take,List.length_drop,hcs2,hzs]
     omega
    simpa using e9
   ·simp only
    rw [htake]
    exact hcr
   ·simp only
    rw [htake]
    exact h1c
   ·intro o' v' hm'
    rw [hw1 trivial o'] at hm'
    cases hm'
end
section
variable {P : Program} {ops : Array Oper} {rest : List Oper} {o : Oper} {n : Nat} {s s' : Nat → PV} {bx : Nat → Option Box} {ob : Nat → Option Obj} {K : PState → Prop} {T : TT} {rb : RB} {k : Nat} {L : List Nat}
theorem sE (hT : T.Ok P) (hg : aS ops s o = some true) {t : TypeId} {x : Operand} {lo hi mx : Option Operand} (ho : o.op = .slice t x lo hi mx) {ti ei : TInfo} {e : TypeId} (hti : T.get t = some ti) (hd : ti.desc = .slice e) (hei : T.get e = some ei)
  {tag : Nat} {g : OwnRef} {len : Nat} (hx : evS s x = .own tag g len) {l h m : Nat} (hl : mF (evS s) lo 0 l) (hh : mF (evS s) hi len h) (hm : mF (evS s) mx g.cap m) (hs : mx.isSome = true → hi.isSome = true) (h1 : l ≤ h) (h2 : h ≤ m) (h3 : m ≤ g.cap)
  (hp : putD n s o.dst (.val (g.sub ei.size l h m)) = some s') (hr : Ao P ops rest ⟨n,s',bx,ob⟩ K) : Ao P ops (o :: rest) ⟨n,s,bx,ob⟩ K :=
 rj hg (detS_subV hT ho hti hd hei hx hl hh hm hs h1 h2 h3) hp hr
theorem sT (hT : T.Ok P) (ho : ops[k]? = some o) (hg : aS ops s o = some true) {t : TypeId} {x : Operand} {lo hi mx : Option Operand} (hop : o.op = .slice t x lo hi mx) {ti ei : TInfo} {e : TypeId} (hti : T.get t = some ti) (hd : ti.desc = .slice e) (hei : T.get e = some ei)
  {tag : Nat} {g : OwnRef} {len : Nat} (hx : evS s x = .own tag g len) {l h m : Nat} (hl : mF (evS s) lo 0 l) (hh : mF (evS s) hi len h) (hm : mF (evS s) mx g.cap m) (hs : mx.isSome = true → hi.isSome = true) (h1 : l ≤ h) (h2 : h ≤ m) (h3 : m ≤ g.cap)
  (hp : putD n s o.dst (.val (g.sub ei.size l h m)) = some s') (hr : Do P T rb ops L ⟨n,s',bx,ob⟩ K) : Do P T rb ops (k :: L) ⟨n,s,bx,ob⟩ K :=
 rr ho hg (by rw [hop]; rfl) (fun _=>detS_subV hT hop hti hd hei hx hl hh hm hs h1 h2 h3) hp hr
theorem sJ (hT : T.Ok P) (hg : aS ops s o = some true) {x : Operand} {t : TypeId} (ho : o.op = .call { callee := .builtin .clear,args := #[x],argTypes := #[t] }) (hdst : o.dst = none) {ti ei : TInfo} {e : TypeId} (hti : T.get t = some ti) (hd : ti.desc = .slice e) (hei : T.get e = some ei)
  (hz : Nat.beq ei.zero.cells.size ei.size = true) (h1 : (cT ei).all PV.one = true) {tag : Nat} {g : OwnRef} {rows : List (List PV)} (hob : ob tag = some ⟨g,e,rows,true⟩) {p q m : Nat} (hp : rows.length ≤ p) (hpq : p ≤ q) (hq : q ≤ m) (hm : m ≤ g.cap)
  (hx : evS s x = .val (g.sub ei.size p q m)) (h : Ao P ops rest ⟨n,s,bx,ob⟩ K) : Ao P ops (o :: rest) ⟨n,s,bx,ob⟩ K :=
 ek hg (eff_clearB hT ho hti hd hei hz h1 hob hp hpq hq hm hx ⟨s,by simp [hdst,putD],h⟩)
theorem sv (hg : aS ops s o = some true) {t t' : TypeId} {x y : Operand} (ho : o.op = .binOp .shr t x y t') {kk k2 : IntKind} {a b : Int} (hx : evS s x = .val (.int kk a)) (hy : evS s y = .val (.int k2 b)) (hb : 0 ≤ b) {m : Nat} (hm : min b.toNat kk.bits = m)
  (hp : putD n s o.dst (.val (.int kk (a.fdiv (2 ^ m)))) = some s') (h : Ao P ops rest ⟨n,s',bx,ob⟩ K) : Ao P ops (o :: rest) ⟨n,s,bx,ob⟩ K := by
 refine ek hg (fun C M a' w next Q hi he hn=>?_)
 have hxr := he x (by rw [ho]; simp [Op.operands])
 have hyr := he y (by rw [ho]; simp [Op.operands])
 rw [show (⟨n,s,bx,ob⟩ : PState).s = s from rfl,hx] at hxr
 rw [show (⟨n,s,bx,ob⟩ : PState).s = s from rfl,hy] at hyr
 simp only [Rep] at hxr hyr
 subst hm
 have hrun : (execOp a'.eval o).run P w = .ok (.value (.int kk (a.fdiv (2 ^ (min b.toNat kk.bits))))) w := by
  have h2 : (eqGuard .shr t x y (.int kk a) (.int k2 b)).run P w = .ok () w := by simp [eqGuard]
  have hb' : ¬ b < 0 := by omega
  simp only [execOp,ho,hxr,hyr,Sem.run_bind,h2,Result.andThen_ok,binOp,Op.shift,zy hb']
  rfl
 unfold Oper.wp
 rw [hrun]
 exact hn _ _ ⟨bx,ob⟩ M w ⟨s',hp,h⟩ (Mem.le_refl M) hi (by simp only [Rep])
theorem mj {tag : Nat} {g : OwnRef} {e : TypeId} {rows : List (List PV)} {wr : Bool} (hob : ob tag = some ⟨g,e,rows,wr⟩) (h : (rows ≠ [] → ∃ b,g.blk = some b) → Ao P ops rest ⟨n,s,bx,ob⟩ K) : Ao P ops rest ⟨n,s,bx,ob⟩ K := fun C M a w Q hi hq=>by
 refine h (fun hne=>?_) C M a w Q hi hq
 obtain ⟨_,_,_,_,h4⟩ := hi.2.objs tag _ hob
 rcases h4 with ⟨_,h5,_⟩ | ⟨b,_,h5,_⟩
 ·exact absurd h5 hne
 ·exact ⟨b,h5⟩
theorem V.ownC {fn : Func} {R : PV → Heap → Prop} {ks : List KI} {tag : Nat} {g : OwnRef} {e : TypeId} {rows : List (List PV)} {wr : Bool} (hob : ob tag = some ⟨g,e,rows,wr⟩) (h : rows.length ≤ g.cap → V P fn R ks ⟨n,s,bx,ob⟩) : V P fn R ks ⟨n,s,bx,ob⟩ := fun C M a w hi=>by
 refine h ?_ C M a w hi
 obtain ⟨_,_,_,_,h4⟩ := hi.2.objs tag _ hob
 rcases h4 with ⟨_,h5,h6⟩ | ⟨b,_,h5,_,_,_,h6,h7,_⟩
 ·simp only at h5; rw [h5]; simp
 ·exact h6
theorem Ao.ownC {tag : Nat} {g : OwnRef} {e : TypeId} {rows : List (List PV)} {wr : Bool} (hob : ob tag = some ⟨g,e,rows,wr⟩) (h : rows.length ≤ g.cap → Ao P ops rest ⟨n,s,bx,ob⟩ K) : Ao P ops rest ⟨n,s,bx,ob⟩ K := fun C M a w Q hi hq=>by
 refine h ?_ C M a w Q hi hq
 obtain ⟨_,_,_,_,h4⟩ := hi.2.objs tag _ hob
 rcases h4 with ⟨_,h5,h6⟩ | ⟨b,_,h5,_,_,_,h6,h7,_⟩
 ·simp only at h5; rw [h5]; simp
 ·exact h6
theorem Gh.cutO {st : PState} {tag : Nat} {g : OwnRef} {e : TypeId} {rows rows' : List (List PV)} (hob : st.ob tag = some ⟨g,e,rows,true⟩) (m : Nat) (hr : rows.take m = rows') : Gh P st ⟨st.n,st.s,st.bx,upd st.ob tag (some ⟨g,e,rows',true⟩)⟩ := by
 subst hr
 intro C M a w hi
 exact ⟨M,hi.1,hi.2.cutO hob m⟩
theorem sP (hT : T.Ok P) (ho : ops[k]? = some o) (hg : aS ops s o = some true) {x y : Operand} {t : TypeId} (hop : o.op = .call { callee := .builtin .append,args := #[x,y],argTypes := #[t,t] }) {ti ei : TInfo} {e : TypeId} (hti : T.get t = some ti) (hd : ti.desc = .slice e) (hei : T.get e = some ei)
  {tag : Nat} {g : OwnRef} {rows rows' : List (List PV)} (hob : ob tag = some ⟨g,e,rows,true⟩) {p q : Nat} (hpq : p ≤ q) (hq : q ≤ rows.length) (hx : evS s x = .val (g.sub ei.size 0 p g.cap)) (hy : evS s y = .val (g.sub ei.size q rows.length g.cap)) (hr : rows.take p ++ rows.drop q = rows')
  (hp : putD n s o.dst (.own tag g rows'.length) = some s') (h : Do P T rb ops L ⟨n,s',bx,upd ob tag (some ⟨g,e,rows',true⟩)⟩ K) : Do P T rb ops (k :: L) ⟨n,s,bx,ob⟩ K := by
 subst hr
 refine ⟨o,ho,true,hg,?_⟩
 simp only [if_true,hop,dw]
 exact .inr fun bx'=>eff_appendIn hT hop hti hd hei hob hpq hq hx hy ⟨rfl,fun hx=>by simp [nC] at hx,s',hp,h⟩
theorem Ao.cutP (hT : T.Ok P) (hg : aS ops s o = some true) {t : TypeId} {x y : Operand} (ho : o.op = .slice t x none (some y) none) {ti : TInfo} {e : TypeId} (hti : T.get t = some ti) (hd : ti.desc = .slice e) {ei : TInfo} (hei : T.get e = some ei)
  {tag : Nat} {g : OwnRef} {len : Nat} {rows rows' : List (List PV)} (hx : evS s x = .own tag g len) (hob : ob tag = some ⟨g,e,rows,true⟩) {kk : IntKind} {m : Int} (hy : evS s y = .val (.int kk m)) (hm : 0 ≤ m ∧ m.toNat ≤ rows.length) (hr : rows.take m.toNat = rows') {d : Nat} (hdst : o.dst = some d) (hlt : Nat.blt d n = true)
  (h : Ao P ops rest ⟨n,upd s d (.own tag g rows'.length),bx,upd ob tag (some ⟨g,e,rows',true⟩)⟩ K) : Ao P ops (o :: rest) ⟨n,s,bx,ob⟩ K := by
 subst hr
 refine ek hg (fun C M a w next Q hi he hn=>?_)
 have hxr := he x (by rw [ho]; simp [Op.operands])
 have hyr := he y (by rw [ho]; simp [Op.operands])
 rw [show (⟨n,s,bx,ob⟩ : PState).s = s from rfl,hx] at hxr
 rw [show (⟨n,s,bx,ob⟩ : PState).s = s from rfl,hy] at hyr
 simp only [Rep] at hxr hyr
 have hu := (hT.get hti).und
 rw [hd] at hu
 have hcap : rows.length ≤ g.cap := by
  obtain ⟨i,_,_,_,h4⟩ := hi.objs tag _ hob
  rcases h4 with ⟨_,b,_⟩ | ⟨_,_,_,_,_,_,h9,_⟩
  ·simp only at b; rw [b]; simp
  ·exact h9
 have hmc : m ≤ (g.cap : Int) := by omega
 have hl2 : (rows.take m.toNat).length = m.toNat := by simp; omega
 have hrun : (execOp a.eval o).run P w = .ok (.value (g.val (rows.take m.toNat).length)) w := by
  rw [hl2]
  simp only [execOp,ho,Sem.run_bind,Sem.run_pure,Option.map_some,Option.map_none,hxr.2,hyr,OwnRef.val]
  cases hb : g.blk with
  | none=>simp [Instr.sliceAt,Instr.slice,run_underlying hu,Instr.sliceBounds,Instr.sliceBound,asIntOf,(hT.get hei).rsize w,hm.1,hmc]
  | some b =>
   have e0 : (⟨b,0,none⟩ : Addr).add 0 = ⟨b,0,none⟩ := by rw [gF]
   simp [Instr.sliceAt,Instr.slice,run_underlying hu,Instr.sliceBounds,Instr.sliceBound,asIntOf,(hT.get hei).rsize w,hm.1,hmc,e0]
 unfold Oper.wp
 rw [hrun]
 exact hn _ (.own tag g (rows.take m.toNat).length) ⟨bx,upd ob tag (some ⟨g,e,rows.take m.toNat,true⟩)⟩ M w ⟨_,by simp [hdst,putD,hlt],h⟩ (Mem.le_refl M) (hi.cutO hob m.toNat) (by simp [Rep])
end
def mn (T : TT) : List (Nat × Nat) → List PV → List PV → Option Bool
 | [],_,_=>some true
 | (t,off) :: r,xs,ys=>match T.get t with
  | some ti=>match (bif ti.eqf.isEmpty then (match xs[off]?,ys[off]? with | some p,some q=>qm ti.desc p q | _,_=>none) else kU T ti.eqf ((xs.drop off).take ti.size) ((ys.drop off).take ti.size)),mn T r xs ys with
   | some b,some c=>some (b && c)
   | _,_=>none
  | none=>none
section
variable {P : Program} {T : TT}
theorem pl (hT : T.Ok P) (w : World) {M : Mem} {d : Nat} {xs ys : List PV} {cs ds : Array Value} (hx : aA P M true xs cs.toList) (hy : aA P M true ys ds.toList) :
  ∀ (fs : List Field) (eqf : List (Nat × Nat)) (b : Bool),eQ fs eqf → mn T eqf xs ys = some b → (Op.eqFields (d + 2) cs ds fs).run P w = .ok b w
 | [],[],b,_,h=>by simp only [mn,zo] at h; subst h; simp [Op.eqFields]
 | f :: fs,(t,o) :: r,b,hm,h=>by
  simp only [eQ] at hm
  obtain ⟨hn,rfl,rfl,hm⟩ := hm
  simp only [mn] at h
  split at h
  ·rename_i ti hti
   split at h
   ·rename_i b1 b2 h1 h2
    simp only [zo] at h
    subst h
    have ih := pl hT w (d := d) hx hy fs r b2 hm h2
    cases he : ti.eqf.isEmpty with
    | true =>
     simp only [he,zc] at h1
     split at h1
     ·rename_i p q hp hq
      obtain ⟨x,hx1,hx2⟩ := hx.get _ _ hp
      obtain ⟨y,hy1,hy2⟩ := hy.get _ _ hq
      obtain ⟨hag,heq⟩ := pu w (d := d + 1) (hT.get hti) hx2 hy2 h1
      have hpx : ∀ (c : Array Value) (z : Value),c.toList[f.offset]? = some z → (part f.type c f.offset).run P w = .ok z w := by
       intro c z hz
       rw [Array.getElem?_toList] at hz
       simp [part,(hT.get hti).ragg w,hag,hz]
      simp only [Op.eqFields, zp (show f.name ≠ "_" from hn), Sem.run_bind, hpx _ _ hx1, hpx _ _ hy1, Result.andThen_ok, heq]
      cases b1 <;> simp [ih]
     ·cases h1
    | false =>
     simp only [he,zd] at h1
     obtain ⟨k1,k2,k3,k4⟩ := (hT.get hti).eqs (by intro h0; simp [h0] at he)
     have hag : mU ti.desc = true := by
      have hu := (hT.get hti).und
      rw [k4] at hu
      rw [← Option.some.inj hu]
      rfl
     have hpx : ∀ (c : Array Value),(part f.type c f.offset).run P w = .ok (.agg (c.extract f.offset (f.offset + ti.size))) w := by
      intro c
      simp [part,(hT.get hti).ragg w,hag,(hT.get hti).rsize w]
     have hsub : ∀ (zs : List PV) (c : Array Value),aA P M true zs c.toList → aA P M true ((zs.drop f.offset).take ti.size) (c.extract f.offset (f.offset + ti.size)).toList := by
      intro zs c hz
      have e : (c.extract f.offset (f.offset + ti.size)).toList = (c.toList.drop f.offset).take ti.size := by
       rw [Array.toList_extract]
       simp [List.extract_eq_take_drop]
      rw [e]
      exact (hz.drop _).take _
     have heq : (Op.equalIn (d + 2) f.type (.agg (cs.extract f.offset (f.offset + ti.size))) (.agg (ds.extract f.offset (f.offset + ti.size)))).run P w = .ok b1 w := by
      rw [run_equalIn_agg w (d + 1) f.type _ _ k4 k1]
      exact li hT w (d := d) (hsub _ _ hx) (hsub _ _ hy) _ _ b1 k3 h1
     simp only [Op.eqFields, zp (show f.name ≠ "_" from hn), Sem.run_bind, hpx, Result.andThen_ok, heq]
     cases b1 <;> simp [ih]
   ·cases h
  ·cases h
 | [],_ :: _,b,hm,_=>by simp [eQ] at hm
 | _ :: _,[],b,hm,_=>by simp [eQ] at hm
theorem detS_eqNest (hT : T.Ok P) {o : Oper} {ev : Operand → PV} {H : Heap} {t t' : TypeId} {x y : Operand} (ho : o.op = .binOp .eql t x y t') {xs ys : List PV} (hx : ev x = .agg xs) (hy : ev y = .agg ys) (h1 : P.stoodInHeld t = false) (h2 : P.eqGuardType P.depth t = false)
  {eqf : List (Nat × Nat)} (h3 : eQ (P.fieldsOf t).toList eqf) (h4 : P.underlying t = some (.struct (P.fieldsOf t))) {b : Bool} (hb : mn T eqf xs ys = some b) : DetS P o ev H (.val (.bool b)) := by
 intro C M a w _ he
 have hxr := he x (by rw [ho]; simp [Op.operands])
 have hyr := he y (by rw [ho]; simp [Op.operands])
 rw [hx] at hxr
 rw [hy] at hyr
 simp only [Rep] at hxr hyr
 obtain ⟨cs,ex,hc⟩ := hxr
 obtain ⟨ds,ey,hd⟩ := hyr
 refine ⟨.bool b,?_,by simp only [Rep]⟩
 have key : (binOp .eql t (.agg cs) (.agg ds)).run P w = .ok (.bool b) w := by
  rw [run_eql_struct w t cs ds,show (10000 : Nat) = 9997 + 2 + 1 from rfl,run_equalIn_agg w (9997 + 2) t cs ds h4 h1,pl hT w (d := 9997) hc hd _ _ b h3 hb]
  rfl
 have hg := run_eqGuard_agg (P := P) w .eql t x y cs ds h2
 simp only [execOp,ho,ex,ey]
 simp only [Sem.run_bind,hg,Result.andThen_ok,key]
 rfl
end
section
variable {P : Program} {ops : Array Oper} {rest : List Oper} {o : Oper} {n : Nat} {s s' : Nat → PV} {bx : Nat → Option Box} {ob : Nat → Option Obj} {K : PState → Prop} {T : TT} {rb : RB} {k : Nat} {L : List Nat}
theorem tm (hT : T.Ok P) (ho : ops[k]? = some o) (hg : aS ops s o = some true) {t t' : TypeId} {x y : Operand} (hop : o.op = .binOp .eql t x y t') {xs ys : List PV} (hx : evS s x = .agg xs) (hy : evS s y = .agg ys) (h1 : P.stoodInHeld t = false) (h2 : P.eqGuardType P.depth t = false)
  {eqf : List (Nat × Nat)} (h3 : eQ (P.fieldsOf t).toList eqf) (h4 : P.underlying t = some (.struct (P.fieldsOf t))) {b : Bool} (hb : mn T eqf xs ys = some b) (hp : putD n s o.dst (.val (.bool b)) = some s') (h : Do P T rb ops L ⟨n,s',bx,ob⟩ K) : Do P T rb ops (k :: L) ⟨n,s,bx,ob⟩ K :=
 rr ho hg (by rw [hop]; rfl) (fun _=>detS_eqNest hT hop hx hy h1 h2 h3 h4 hb) hp h
end
section
variable {P : Program} {C : Ctx} {M : Mem} {H : Heap} {w : World}
theorem InvH.alloc_part (h : InvH P C M H w) (pre cs : Array Value) (e : TypeId) (fz : Nat × Nat) (hp : ∀ (o : Nat) (v : Value),pre[o]? = some v → cs[o]? = some v) : InvH P C (M.add w.heap.size pre) H (w.alloc (.cells cs e fz)) := by
 have hle := h.add_le pre
 refine ⟨?_,Mem.le_trans h.ext hle,?_,h.os,h.tape,h.output,?_,?_,?_,?_,h.dbox,h.dobj,h.dmix⟩
 ·intro b o v hm
  by_cases hb : b = w.heap.size
  ·subst hb
   rw [cell_of_row (w.alloc (.cells cs e fz)) w.heap.size o cs e fz (heap_alloc_new w _)]
   exact hp o v (by simpa [Mem.add] using hm)
  ·simp only [Mem.add,hb,if_false] at hm
   rw [mw w _ (h.mem_lt hm)]
   exact h.mem b o v hm
 ·intro b o v hm
  by_cases hb : b = w.heap.size
  ·exact .inr (.inl (hb ▸ h.size))
  ·simp only [Mem.add,hb,if_false] at hm
   exact h.new b o v hm
 ·rw [qk]; exact Nat.le_succ_of_le h.size
 ·intro b hb hn
  rw [heap_alloc_old w _ (Nat.lt_of_lt_of_le hb h.size)]
  exact h.frame b hb hn
 ·intro t x hx
  have hlt := h.box_lt hx
  exact (h.boxes t x hx).keep hle (fun o ho=>by simp [Mem.add,Nat.ne_of_lt hlt,ho]) (heap_alloc_old w _ hlt)
 ·intro t x hx
  exact (h.objs t x hx).keep hle (fun b o hb ho=>by simp [Mem.add,Nat.ne_of_lt (h.obj_lt hx hb),ho]) (fun b hb=>heap_alloc_old w _ (h.obj_lt hx hb))
theorem freeze_new (w : World) (cs : Array Value) (e : TypeId) (n : Nat) : (w.alloc (.cells cs e)).freeze ⟨w.heap.size,n,none⟩ 1 = w.alloc (.cells cs e (n,n + 1)) := by
 unfold World.freeze World.alloc
 simp only [Nat.one_ne_zero,if_false]
 congr 1
 apply Array.ext
 ·simp
 ·intro i h1 h2
  rw [Array.getElem_modify]
  split
  ·rename_i hi
   subst hi
   simp
  ·rename_i hi
   have : i < w.heap.size := by simp at h2; omega
   simp [Array.getElem_push,this]
end
section
variable {P : Program} {ops : Array Oper} {rest : List Oper} {o : Oper} {n : Nat} {s s' : Nat → PV} {bx : Nat → Option Box} {ob : Nat → Option Obj} {K : PState → Prop} {T : TT} {rb : RB} {k : Nat} {L : List Nat}
theorem byteRows_rep (M : Mem) (xs : List UInt8) : aA P M false (kJ xs).flatten (xs.map fun c=>Value.int .u8 c.toNat) := by
 induction xs with
 | nil=>simp [kJ,aA]
 | cons c xs ih=>simp only [kJ,List.map_cons,List.flatten_cons,List.cons_append,List.nil_append,aA,Rep]; exact ⟨_,_,rfl,rfl,ih⟩
theorem Ao.s2b (hT : T.Ok P) (hg : aS ops s o = some true) {src dst e : TypeId} {x : Operand} (ho : o.op = .convert src dst x) {si di ei : TInfo} (hsi : T.get src = some si) (hsd : si.desc = .string) (hdi : T.get dst = some di) (hdd : di.desc = .slice e) (hei : T.get e = some ei) (hed : ei.desc = .int .u8) (hes : ei.size = 1) (heb : ei.bytes = 1)
  {xs : List UInt8} (hx : evS s x = .str xs) (hl : xs.length ≤ 2 ^ 47) (hp : putD n s o.dst (.list e (kJ xs)) = some s') (h : Ao P ops rest ⟨n,s',bx,ob⟩ K) : Ao P ops (o :: rest) ⟨n,s,bx,ob⟩ K := by
 refine ek hg (fun C M a w next Q hi he hn=>?_)
 have hxr := he x (by rw [ho]; simp [Op.operands])
 rw [show (⟨n,s,bx,ob⟩ : PState).s = s from rfl,hx] at hxr
 simp only [Rep] at hxr
 have hs := (hT.get hsi).und
 have hd := (hT.get hdi).und
 have hee := (hT.get hei).und
 rw [hsd] at hs
 rw [hdd] at hd
 rw [hed] at hee
 obtain ⟨i,hinf,hsz,hby,_⟩ := (hT.get hei).info
 have hge := grownCap_ge w xs.length 0 e
 have hml : xs.length ≤ maxLen := by unfold maxLen; omega
 have hgm : grownCap w xs.length 0 e ≤ maxLen := grownCap_le_maxLen w xs.length 0 e hml
 obtain ⟨pre,hpre⟩ : ∃ pre : Array Value,pre = xs.toArray.map fun b=>Value.int .u8 b.toNat := ⟨_,rfl⟩
 obtain ⟨cs,hcs⟩ : ∃ cs : Array Value,cs = pre ++ Array.replicate (grownCap w xs.length 0 e - xs.length) (.int .u8 0) := ⟨_,rfl⟩
 have hrun : (execOp a.eval o).run P w = .ok (.value (.slice (some ⟨w.heap.size,0,none⟩) xs.length (grownCap w xs.length 0 e))) (w.drew.alloc (.cells cs e (cs.size,cs.size + 1))) := by
  have hz : (ByteArray.mk xs.toArray).size = xs.length := by simp [ByteArray.size]
  have key : (Conv.stringToBytes e ⟨xs.toArray⟩).run P w = .ok (.slice (some ⟨w.heap.size,0,none⟩) xs.length (grownCap w xs.length 0 e)) (w.drew.alloc (.cells cs e (cs.size,cs.size + 1))) := by
   have hmk : ∀ w0 : World,(markStringish ⟨w0.heap.size,0,none⟩).run P (w0.alloc (.cells cs e)) = .ok () (w0.alloc (.cells cs e (cs.size,cs.size + 1))) := by
    intro w0
    have hsh : (w0.alloc (.cells cs e)).shape? w0.heap.size = some (e,cs.size) := by unfold World.shape?; rw [heap_alloc_new]
    unfold markStringish
    simp only [Sem.run_bind,run_shape,Result.andThen_ok,hsh]
    rw [run_freeze,freeze_new]
   have hm0 := hmk w.drew
   subst hcs
   subst hpre
   unfold Conv.stringToBytes
   simp only [Sem.run_bind,hz,run_choose,Question.forced]
   simp [newRow]
   simp [grownCap] at hm0 ⊢
   rw [hm0]
   simp
  simp only [execOp,ho,hxr.1,convert,Sem.run_bind,run_underlying hs,run_underlying hd,run_underlying hee,Result.andThen_ok,key]
  rfl
 unfold Oper.wp
 rw [hrun]
 have hle := (show InvH P C M ⟨bx,ob⟩ w.drew from hi.drew).add_le pre
 have hi' := (show InvH P C M ⟨bx,ob⟩ w.drew from hi.drew).alloc_part pre cs e (cs.size,cs.size + 1) (fun o v hv=>by rw [hcs,Array.getElem?_append_left (Array.getElem?_eq_some_iff.1 hv).1]; exact hv)
 refine hn _ (.list e (kJ xs)) ⟨bx,ob⟩ (M.add w.drew.heap.size pre) _ ⟨s',hp,h⟩ hle hi' ?_
 simp only [Rep]
 have hbl : (kJ xs).length = xs.length := by simp [kJ]
 refine ⟨_,grownCap w xs.length 0 e,i,by rw [hbl],by rw [hbl]; exact hge,hgm,hinf,by rw [hbl,hby,heb]; omega,fun _=>⟨_,_,rfl,?_⟩⟩
 refine dc.of_flat (fun r hr=>?_) (qI (show InvH P C M ⟨bx,ob⟩ w.drew from hi.drew) (kJ xs).flatten pre ?_ ?_)
 ·obtain ⟨c,_,rfl⟩ := List.mem_map.1 hr
  rw [hsz,hes]; rfl
 ·rw [hpre]
  intro v hv
  simp at hv
  obtain ⟨c,_,rfl⟩ := hv
  rfl
 ·rw [hpre]
  simpa using byteRows_rep M xs
theorem tw (hT : T.Ok P) (hg : aS ops s o = some true) {x : Operand} {t : TypeId} (ho : o.op = .makeSlice t x x) {d : Nat} (hdst : o.dst = some d) (hlt : Nat.blt d n = true) {ti ei : TInfo} {e : TypeId} (hti : T.get t = some ti) (hd : ti.desc = .slice e) (hei : T.get e = some ei)
  (hz : Nat.beq ei.zero.cells.size ei.size = true) (h1 : (cT ei).all PV.one = true) {kk : IntKind} {m : Int} (hx : evS s x = .val (.int kk m)) (hm : 0 ≤ m) (hby : m.toNat * ei.bytes ≤ 2 ^ 47) (hmx : m.toNat ≤ maxLen) {rows : List (List PV)} (hr : List.replicate m.toNat (cT ei) = rows)
  (h : ∀ g,Ao P ops rest ⟨n,upd s d (.own d g rows.length),bx,upd ob d (some ⟨g,e,rows,true⟩)⟩ K) : Ao P ops (o :: rest) ⟨n,s,bx,ob⟩ K := by
 subst hr
 refine ek hg (fun C M a w next Q hi he hn=>?_)
 have hxr := he x (by rw [ho]; simp [Op.operands])
 rw [show (⟨n,s,bx,ob⟩ : PState).s = s from rfl,hx] at hxr
 simp only [Rep] at hxr
 have hu := (hT.get hti).und
 rw [hd] at hu
 obtain ⟨i,hinf,hs,hbs,hzero⟩ := (hT.get hei).info
 have hz1 := Nat.eq_of_beq_eq_true hz
 obtain ⟨k,hk⟩ : ∃ k : Nat,k = m.toNat := ⟨_,rfl⟩
 rw [← hk] at hby hmx h
 have hkm : m = (k : Int) := by omega
 subst hkm
 have hby2 : k * i.bytes ≤ 2 ^ 47 := by rw [hbs]; exact hby
 have hbi : (i.bytes : Int) * (k : Int) ≤ 281474976710656 := by
  have : ((k * i.bytes : Nat) : Int) ≤ ((2 ^ 47 : Nat) : Int) := Int.ofNat_le.2 hby2
  rw [Int.natCast_mul] at this
  rw [Int.mul_comm]
  omega
 have hrun : (execOp a.eval o).run P w = .ok (.value (.slice (some ⟨w.heap.size,0,none⟩) k k)) (w.alloc (.cells (madeCells ei.zero.cells (k * i.size)) e)) := by
  have := run_make w t e i ei.zero hu hinf hzero kk kk (k : Int) (k : Int) (by omega) (by omega) hbi (by unfold maxLen at hmx; omega)
  simp only [Int.toNat_natCast] at this
  simp only [execOp,ho,hxr,Sem.run_bind,this]
  rfl
 unfold Oper.wp
 rw [hrun]
 have hzl : (cT ei).length = i.size := by simp [cT,hz1,hs]
 have hmc : (madeCells ei.zero.cells (k * i.size)).toList = (List.replicate k ei.zero.cells.toList).flatten := by
  rw [hs,← hz1]
  exact ox ei.zero.cells k
 have hrep : aA P M false (List.replicate k (cT ei)).flatten (List.replicate k ei.zero.cells.toList).flatten := kX (kL _) k
 have htake : (madeCells ei.zero.cells (k * i.size)).toList.take ((List.replicate k (cT ei)).length * i.size) = (List.replicate k ei.zero.cells.toList).flatten := by
  rw [List.length_replicate,List.take_of_length_le (by simp [size_madeCells]),hmc]
 refine hn _ (.own d ⟨some w.heap.size,k⟩ (List.replicate k (cT ei)).length) _ M _ ⟨_,by simp [hdst,putD,hlt],h ⟨some w.heap.size,k⟩⟩ (Mem.le_refl M)
  ((show InvH P C M ⟨bx,ob⟩ w from hi).alloc_obj d e (List.replicate k (cT ei)) true _ _ i hinf ?_ ?_ ?_ ?_ hmx ?_ ?_) ?_
 ·rw [List.length_replicate]; exact hby2
 ·intro r hr
  rw [List.eq_of_mem_replicate hr]
  exact hzl
 ·rw [size_madeCells]
 ·rw [List.length_replicate]; exact Nat.le_refl _
 ·rw [htake]; exact hrep
 ·rw [htake]
  refine aA.oneCell ?_ hrep
  rw [List.all_flatten]
  rw [List.all_eq_true]
  intro r hr
  rw [List.eq_of_mem_replicate hr]
  exact h1
 ·simp [Rep,OwnRef.val]
theorem Ao.ext (hg : aS ops s o = some true) {fx : Operand} {av0 : Array Operand} {ts : Array TypeId} (ho : o.op = .call { callee := .value fx,args := av0,argTypes := ts }) {g : FuncId} (hf : evS s fx = .fn g []) {r : PV}
  (hcall : ∀ (M : Mem) (vs : Array Value) (w : World),aA P M true (av0.toList.map (evS s)) vs.toList → ∃ v,(callFunc g vs).run P w = .ok (.value v) w ∧ Rep P M true r v)
  (hp : putD n s o.dst r = some s') (h : Ao P ops rest ⟨n,s',bx,ob⟩ K) : Ao P ops (o :: rest) ⟨n,s,bx,ob⟩ K := by
 refine ek hg (fun C M a w next Q hi he hn=>?_)
 have hfr := he fx (by rw [ho]; simp [Op.operands,Call.operands])
 rw [show (⟨n,s,bx,ob⟩ : PState).s = s from rfl,hf] at hfr
 simp only [Rep] at hfr
 obtain ⟨cs,hv,hcaps⟩ := hfr
 have hargs : aA P M true (av0.toList.map (evS s)) (av0.map a.eval).toList := by
  simpa using lI av0.toList fun x hx=>he x (by rw [ho]; simp_all [Op.operands,Call.operands])
 have hc0 : cs = #[] := by
  simp only [aA] at hcaps
  exact Array.toList_eq_nil_iff.1 hcaps
 subst hc0
 obtain ⟨v,hrun,hr⟩ := hcall M (av0.map a.eval) w hargs
 have hrun' : (execOp a.eval o).run P w = .ok (.value v) w := by
  simp [execOp,ho,resolve,hv,Deferred.ofValue,invoke,hrun]
 unfold Oper.wp
 rw [hrun']
 exact hn v r ⟨bx,ob⟩ M w ⟨s',hp,h⟩ (Mem.le_refl M) hi hr
theorem Ao.cmpS (hg : aS ops s o = some true) {fx x y : Operand} {ts : Array TypeId} (ho : o.op = .call { callee := .value fx, args := #[x, y], argTypes := ts }) {g : FuncId} (hf : evS s fx = .fn g []) {fn : Func} (h1 : P.funcs[g]? = some fn) (h2 : (fn.name == "runtime.NumGoroutine") = false) (h3 : fn.body.isNone = true) (h4 : Extern.findNext fn = none) (h5 : Extern.find fn = some Extern.BytealgCompare.compare)
  {a b : List UInt8} (hx : evS s x = .str a) (hy : evS s y = .str b) (hp : putD n s o.dst (.val (.int .i64 (Lib.compareBytes a b))) = some s') (h : Ao P ops rest ⟨n,s',bx,ob⟩ K) : Ao P ops (o :: rest) ⟨n,s,bx,ob⟩ K := by
 refine Ao.ext hg ho hf (fun M vs w hr=>?_) hp h
 simp only [List.map_cons,List.map_nil,hx,hy,aA,Rep] at hr
 obtain ⟨v1,l1,e1,⟨r1,_⟩,v2,l2,e2,⟨r2,_⟩,e3⟩ := hr
 subst e3 e2 r1 r2
 have hvs : vs = #[.string ⟨a.toArray⟩,.string ⟨b.toArray⟩] := by
  apply Array.toList_inj.1
  rw [e1]
 subst hvs
 refine ⟨.int .i64 (Lib.compareBytes a b),?_,by simp only [Rep]⟩
 rw [run_callFunc_extern h1 h2 h3 h4 h5,Lib.run_compareString]
 rfl
end
def arrI {α : Type} (n : Nat) (xs : List α) (i : Int) : Option α := if 0 ≤ i ∧ i < n then xs[i.toNat]? else none
theorem arrI_some {α : Type} {n : Nat} {xs : List α} {i : Int} {x : α} (h : arrI n xs i = some x) : (0 ≤ i ∧ i < n) ∧ xs[i.toNat]? = some x := by
 unfold arrI at h
 split at h
 ·rename_i h0; exact ⟨h0,h⟩
 ·cases h
theorem arrI_eq {α : Type} {n : Nat} {xs : List α} {i : Int} {x : α} (h0 : 0 ≤ i ∧ i < n) (h : xs[i.toNat]? = some x) : arrI n xs i = some x := by
 unfold arrI
 rw [zp h0,h]
theorem splice_map {α : Type} (f : α → PV) (xs : List α) (k : Nat) (v : α) {ys : List α} (hk : k < xs.length) (hy : xs.set k v = ys) : eU (xs.map f) k [f v] = ys.map f := by
 subst hy
 unfold eU
 rw [List.map_set,List.length_singleton]
 have hk' : k < (xs.map f).length := by simpa using hk
 rw [List.set_eq_take_append_cons_drop,zp hk',List.append_assoc]
 rfl
section
variable {P : Program} {ops : Array Oper} {rest : List Oper} {o : Oper} {n : Nat} {s s' : Nat → PV} {bx : Nat → Option Box} {ob : Nat → Option Obj} {K : PState → Prop} {T : TT} {rb : RB} {k : Nat} {L : List Nat}
theorem qd (p : PV) (l : List PV) : okS (p :: l) = false ↔ ∃ a g b,p = .optr a g 99 77 b := by
 constructor
 ·intro h
  unfold okS at h
  split at h
  ·rename_i a g b _ e
   simp only [List.cons.injEq] at e
   exact ⟨a,g,b,e.1⟩
  ·cases h
 ·rintro ⟨a,g,b,rfl⟩
  rfl
theorem okS_head {p : PV} {l : List PV} : okS (p :: l) = okS [p] := by
 cases h : okS [p] with
 | false=>exact (qd p l).2 ((qd p []).1 h)
 | true =>
  cases h' : okS (p :: l) with
  | true=>rfl
  | false=>rw [(qd p []).2 ((qd p l).1 h')] at h; cases h
theorem okS_map {α : Type} {f : α → PV} (hf : ∀ x,okS [f x] = true) : ∀ l : List α,okS (l.map f) = true
 | []=>rfl
 | x :: l=>by rw [List.map_cons,okS_head]; exact hf x
theorem rn (l : List Int) : okS (l.map fun x=>PV.val (.int .i64 x)) = true := okS_map (fun _=>rfl) l
theorem pY (l : List Bool) : okS (l.map fun x=>PV.val (.bool x)) = true := okS_map (fun _=>rfl) l
theorem rk (l : List (List UInt8)) : okS (l.map PV.str) = true := okS_map (fun _=>rfl) l
theorem sU (ho : ops[k]? = some o) (hg : aS ops s o = some true) {t : TypeId} {x i : Operand} (hop : o.op = .indexAddr t x i) {ti ei : TInfo} {e : TypeId} {len : Nat} (hti : T.get t = some ti) (hd : ti.desc = .array len e) (hei : T.get e = some ei) (hes : ei.size = 1)
  {tag b : Nat} (hx : evS s x = .box tag b 0) {kk : IntKind} {j : Int} (hi : evS s i = .val (.int kk j)) (hj : 0 ≤ j ∧ j < len) (hp : putD n s o.dst (.box tag b j.toNat) = some s') (h : Do P T rb ops L ⟨n,s',bx,ob⟩ K) : Do P T rb ops (k :: L) ⟨n,s,bx,ob⟩ K := by
 refine ss ho hg (by rw [hop]; rfl) (r := .box tag b j.toNat) ?_ hp h
 rw [hop]
 simp [ii,iE,hti,hx,hi,hd,hei,hj,hes]
theorem tz (hT : T.Ok P) (hg : aS ops s o = some true) {t : TypeId} {x : Operand} (ho : o.op = .load t x) {ti : TInfo} (hti : T.get t = some ti) (hta : mU ti.desc = false) {tag b off : Nat} {cells : List PV}
  (hx : evS s x = .box tag b off) (hb : bx tag = some ⟨b,cells⟩) {r : PV} (hr : cells[off]? = some r) (hp : putD n s o.dst r = some s') (h : Ao P ops rest ⟨n,s',bx,ob⟩ K) (hok : okS cells = true := by first | rfl | exact rn _ | exact pY _ | exact rk _) : Ao P ops (o :: rest) ⟨n,s,bx,ob⟩ K :=
 Ao.lB hT hg ho hti hx hb (by simp [ep,hok,fQ,hta,hr,iJ]) hp h
theorem tD (ho : ops[k]? = some o) (hrb : rb.b o = true) (hg : aS ops s o = some true) {t : TypeId} {x : Operand} (hop : o.op = .load t x) {ti : TInfo} (hti : T.get t = some ti) (hta : mU ti.desc = false) {tag b off : Nat} {cells : List PV}
  (hx : evS s x = .box tag b off) (hb : bx tag = some ⟨b,cells⟩) {r : PV} (hr : cells[off]? = some r) (hp : putD n s o.dst r = some s') (h : Do P T rb ops L ⟨n,s',bx,ob⟩ K) (hok : okS cells = true := by first | rfl | exact rn _ | exact pY _ | exact rk _) : Do P T rb ops (k :: L) ⟨n,s,bx,ob⟩ K :=
 Do.lB ho hrb hg hop hti hx hb (by simp [ep,hok,fQ,hta,hr,iJ]) hp h
theorem tf (hT : T.Ok P) (hg : aS ops s o = some true) {t : TypeId} {x y : Operand} (ho : o.op = .store t x y) (hd : o.dst = none) {ti : TInfo} (hti : T.get t = some ti) (hts : ti.size = 1) {tag b off : Nat} {cells cells' : List PV} (hx : evS s x = .box tag b off) (hb : bx tag = some ⟨b,cells⟩)
  {p : PV} (hc : cX (evS s y) = some [p]) (h1 : PV.one p = true) (hk : off < cells.length) (hs : eU cells off [p] = cells') (h : Ao P ops rest ⟨n,s,upd bx tag (some ⟨b,cells'⟩),ob⟩ K) (hok : okS cells = true := by first | rfl | exact rn _ | exact pY _ | exact rk _) : Ao P ops (o :: rest) ⟨n,s,bx,ob⟩ K :=
 Ao.sB hT hg ho hd hti hx hb (cs := [p]) (by simp [hc,dP]) (by simp [h1]) (by rw [hts]; rfl) (by rw [hts,hok,Bool.true_and]; exact Nat.ble_eq.mpr hk) (by rw [dP,hs]) h
theorem tn (ho : ops[k]? = some o) (hg : aS ops s o = some true) {t : TypeId} {x y : Operand} (hop : o.op = .store t x y) (hd : o.dst = none) {ti : TInfo} (hti : T.get t = some ti) (hts : ti.size = 1) {tag b off : Nat} {cells cells' : List PV} (hx : evS s x = .box tag b off) (hb : bx tag = some ⟨b,cells⟩)
  {p : PV} (hc : cX (evS s y) = some [p]) (h1 : PV.one p = true) (hk : off < cells.length) (hs : eU cells off [p] = cells') (h : Do P T rb ops L ⟨n,s,upd bx tag (some ⟨b,cells'⟩),ob⟩ K) (hok : okS cells = true := by first | rfl | exact rn _ | exact pY _ | exact rk _) (hso : rb.so = false := by rfl) : Do P T rb ops (k :: L) ⟨n,s,bx,ob⟩ K :=
 bQ ho hg hop hd hti hx hb (cs := [p]) (by simp [hc,dP]) (by simp [h1]) (by rw [hts]; rfl) (by rw [hts,hok,Bool.true_and]; exact Nat.ble_eq.mpr hk) (by rw [dP,hs]) h hso
end
def bK : Nat := 100000
def cI (n c : Nat) : Nat := max n (min c maxLen)
def iO (b n c : Nat) : Value := bif Nat.beq (cI n c) 0 then .slice none 0 0 else .slice (some ⟨b,0,none⟩) n (cI n c)
def eN (gf : Nat → OwnRef) (rss : List (List (List PV))) (c : Nat) : List PV := rss.mapIdx (fun i rs=>PV.own (bK + i) (gf i) rs.length) ++ List.replicate (cI rss.length c - rss.length) (.val (.slice none 0 0))
def iI (b : Nat) (gf : Nat → OwnRef) (rss : List (List (List PV))) (c : Nat) : Option Box := bif Nat.beq (cI rss.length c) 0 then none else some ⟨b,eN gf rss c⟩
def et (e : TypeId) (gf : Nat → OwnRef) (rss : List (List (List PV))) (ob : Nat → Option Obj) : Nat → Option Obj := fun t =>
 bif Nat.ble bK t then (rss[t - bK]?).map (fun rs=>⟨gf (t - bK),e,rs,true⟩) else ob t
theorem okS_of {l : List PV} (h : ∀ p ∈ l,∀ a g b,p ≠ .optr a g 99 77 b) : okS l = true := by
 unfold okS
 split
 ·rename_i a g b _; exact absurd rfl (h _ (by simp) a g b)
 ·rfl
theorem pC (gf : Nat → OwnRef) (rss : List (List (List PV))) (c : Nat) : okS (eN gf rss c) = true := okS_of fun p hp a g b e=>by
 subst e
 unfold eN at hp
 rcases List.mem_append.1 hp with hp | hp
 ·obtain ⟨i,hi,h⟩ := List.mem_mapIdx.1 hp
  cases h
 ·cases (List.mem_replicate.1 hp).2
theorem jw (n c : Nat) : n ≤ cI n c := Nat.le_max_left _ _
theorem famCap_le {n : Nat} (c : Nat) (h : n ≤ maxLen) : cI n c ≤ maxLen := Nat.max_le.2 ⟨h,Nat.min_le_right _ _⟩
theorem jP {n c : Nat} (h : n ≤ c) (h' : c ≤ maxLen) : cI n c = c := by unfold cI; rw [Nat.min_eq_left h',Nat.max_eq_right h]
theorem beq_pos {n : Nat} (h : 0 < n) : Nat.beq n 0 = false := by
 cases n with
 | zero=>omega
 | succ n=>rfl
theorem lm {b n c : Nat} (h : 0 < cI n c) : iO b n c = .slice (some ⟨b,0,none⟩) n (cI n c) := by simp [iO,beq_pos h]
theorem famV_zero {b n c : Nat} (h : cI n c = 0) : iO b n c = .slice none 0 0 := by simp [iO,h]
theorem pZ {b : Nat} {gf : Nat → OwnRef} {rss : List (List (List PV))} {c : Nat} (h : 0 < cI rss.length c) : iI b gf rss c = some ⟨b,eN gf rss c⟩ := by simp [iI,beq_pos h]
theorem famB_zero {b : Nat} {gf : Nat → OwnRef} {rss : List (List (List PV))} {c : Nat} (h : cI rss.length c = 0) : iI b gf rss c = none := by simp [iI,h]
theorem ec {e : TypeId} {gf : Nat → OwnRef} {rss : List (List (List PV))} {ob : Nat → Option Obj} {i : Nat} {rs : List (List PV)} (h : rss[i]? = some rs) : et e gf rss ob (bK + i) = some ⟨gf i,e,rs,true⟩ := by
 have : Nat.ble bK (bK + i) = true := by rw [Nat.ble_eq]; exact Nat.le_add_right _ _
 simp [et,this,h]
theorem rc {b : Nat} {gf : Nat → OwnRef} {rss : List (List (List PV))} {c i : Nat} {rs : List (List PV)} (h : rss[i]? = some rs) : iI b gf rss c = some ⟨b,eN gf rss c⟩ := by
 have hl := (zg.1 h).1
 exact pZ (Nat.lt_of_lt_of_le (by omega) (jw _ _))
theorem famCells_get {gf : Nat → OwnRef} {rss : List (List (List PV))} {c i : Nat} {rs : List (List PV)} (h : rss[i]? = some rs) : (eN gf rss c)[i]? = some (.own (bK + i) (gf i) rs.length) := by
 have hl := (zg.1 h).1
 unfold eN
 rw [List.getElem?_append_left (by simpa using hl)]
 simp [h]
theorem nV {gf : Nat → OwnRef} {rss : List (List (List PV))} {c : Nat} : (eN gf rss c).length = cI rss.length c := by
 have := jw rss.length c
 simp [eN]; omega
theorem flat_single {α β : Type} (f : α → β) (l : List α) : (l.map fun r=>[f r]).flatten = l.map f := by
 induction l with
 | nil=>rfl
 | cons a l ih=>simp [ih]
theorem splice_one (cells : List PV) (k : Nat) (v : PV) (hk : k < cells.length) : eU cells k [v] = cells.set k v := by
 unfold eU
 rw [List.length_singleton,List.set_eq_take_append_cons_drop,zp hk,List.append_assoc]
 rfl
theorem famCells_set {gf : Nat → OwnRef} {rss : List (List (List PV))} {c i : Nat} {rs rs' : List (List PV)} (h : rss[i]? = some rs) (g : OwnRef) :
  eU (eN gf rss c) i [.own (bK + i) g rs'.length] = eN (upd gf i g) (rss.set i rs') c := by
 have hl := (zg.1 h).1
 rw [splice_one _ _ _ (by rw [nV]; exact Nat.lt_of_lt_of_le hl (jw _ _))]
 unfold eN
 rw [List.set_append_left _ _ (by simpa using hl),List.length_set]
 congr 1
 apply List.ext_getElem?
 intro j
 simp only [List.getElem?_set,List.length_mapIdx,List.getElem?_mapIdx]
 by_cases hj : i = j
 ·subst hj; simp [hl,fo]
 ·have : j ≠ i := fun h=>hj h.symm
  simp [hj,eh _ _ this]
theorem lD {α : Type} {f : Nat → α} {t : Nat} {v : α} {i : Nat} (h : t < 100000) : upd f t v (bK + i) = f (bK + i) := eh _ _ (by unfold bK; omega)
theorem famO_low {e : TypeId} {gf : Nat → OwnRef} {rss : List (List (List PV))} {ob : Nat → Option Obj} {t : Nat} (h : t < bK) : et e gf rss ob t = ob t := by
 have : Nat.ble bK t = false := by
  cases hb : Nat.ble bK t with
  | false=>rfl
  | true=>have := Nat.le_of_ble_eq_true hb; omega
 simp [et,this]
theorem famO_set {e : TypeId} {gf : Nat → OwnRef} {rss : List (List (List PV))} {ob : Nat → Option Obj} {i : Nat} {rs' : List (List PV)} {g : OwnRef} (hl : i < rss.length) :
  ∀ j rs,(rss.set i rs')[j]? = some rs → upd (et e gf rss ob) (bK + i) (some ⟨g,e,rs',true⟩) (bK + j) = some ⟨upd gf i g j,e,rs,true⟩ := by
 intro j rs h
 rw [List.getElem?_set] at h
 by_cases hj : i = j
 ·subst hj
  simp only [if_true,hl] at h
  cases h
  rw [fo,fo]
 ·have h1 : bK + j ≠ bK + i := by omega
  rw [zy hj] at h
  rw [eh _ _ h1,ec h,eh _ _ (fun h=>hj h.symm)]
theorem famB_put {b c i : Nat} {gf2 : Nat → OwnRef} {rss rss2 : List (List (List PV))} {rs rs' : List (List PV)} (h : rss[i]? = some rs) (hz : rss2 = rss.set i rs') : (some ⟨b,eN gf2 (rss.set i rs') c⟩ : Option Box) = iI b gf2 rss2 c := by
 subst hz
 exact (rc (i := i) (rs := rs') (by rw [List.getElem?_set]; simp [(zg.1 h).1])).symm
theorem famO_put {e : TypeId} {gf : Nat → OwnRef} {rss rss2 : List (List (List PV))} {ob : Nat → Option Obj} {i : Nat} {rs0 rs' : List (List PV)} {g : OwnRef} (h : rss[i]? = some rs0) (hz : rss2 = rss.set i rs') :
  ∀ j rs,rss2[j]? = some rs → upd (et e gf rss ob) (bK + i) (some ⟨g,e,rs',true⟩) (bK + j) = some ⟨upd gf i g j,e,rs,true⟩ := by
 subst hz
 exact famO_set (zg.1 h).1
theorem gZ (ob ob' : Nat → Option Obj) (t : Nat) : lL ob [] ob' t = ob t := rfl
theorem gr {ob ob' : Nat → Option Obj} {a k i : Nat} {m : List (Nat × Nat)} (h : a < 100000) : lL ob ((a,k) :: m) ob' (bK + i) = lL ob m ob' (bK + i) := by
 unfold lL
 rw [List.find?_cons]
 have : Nat.beq a (bK + i) = false := by
  cases hb : Nat.beq a (bK + i) with
  | false=>rfl
  | true=>have := Nat.eq_of_beq_eq_true hb; unfold bK at this; omega
 simp only [this]
section
variable {P : Program} {bx bx' : Nat → Option Box} {ob ob' : Nat → Option Obj}
theorem sW {e : TypeId} {gf : Nat → OwnRef} (h : OLe ob ob') : OLe ob (et e gf [] ob') := fun t x hx=>by
 unfold et at hx
 cases hq : Nat.ble bK t with
 | true=>rw [hq] at hx; simp at hx
 | false=>rw [hq] at hx; exact h t x hx
theorem jK {e : TypeId} {gf : Nat → OwnRef} {rss : List (List (List PV))} (h : ∀ i rs,rss[i]? = some rs → ob (bK + i) = some ⟨gf i,e,rs,true⟩) (h' : OLe ob ob') : OLe ob (et e gf rss ob') := by
 intro t x hx
 unfold et at hx
 cases hb : Nat.ble bK t with
 | false=>rw [hb] at hx; exact h' t x hx
 | true =>
  rw [hb] at hx
  have hle := Nat.le_of_ble_eq_true hb
  simp only [zc,Option.map_eq_some_iff] at hx
  obtain ⟨rs,h1,rfl⟩ := hx
  have := h _ _ h1
  rwa [show bK + (t - bK) = t from by omega] at this
theorem famNil_le (e : TypeId) (gf : Nat → OwnRef) (ob : Nat → Option Obj) : ∀ t x,et e gf [] ob t = some x → ob t = some x := jK (fun i rs h=>by simp at h) (tE ob)
theorem kl {t b c : Nat} {gf : Nat → OwnRef} {rss : List (List (List PV))} (h : bx t = iI b gf rss c) (h' : BLe P bx bx') : BLe P bx (upd bx' t (iI b gf rss c)) := fun u x hx=>by
 rw [cS] at hx
 split at hx
 ·rename_i e; subst e; rw [← h] at hx; exact ⟨x,hx,rfl,fu.refl P _,.inr rfl⟩
 ·exact h' u x hx
theorem sY {t b : Nat} {gf : Nat → OwnRef} (h' : BLe P bx bx') : BLe P bx (upd bx' t (iI b gf [] 0)) := fun u x hx=>by
 rw [cS] at hx
 split at hx
 ·rw [famB_zero (by simp [cI])] at hx; cases hx
 ·exact h' u x hx
end
theorem InvH.famNil {P : Program} {C : Ctx} {M : Mem} {w : World} {bx : Nat → Option Box} {ob : Nat → Option Obj} (e : TypeId) (gf : Nat → OwnRef) (h : InvH P C M ⟨bx,ob⟩ w) : InvH P C M ⟨bx,et e gf [] ob⟩ w :=
 h.less (fun _ _ hx=>hx) (famNil_le e gf ob)
section
variable {P : Program} {C : Ctx} {M : Mem} {H : Heap} {w : World}
theorem InvH.freezeAll {bx : Nat → Option Box} {ob : Nat → Option Obj} {e : TypeId} {gf : Nat → OwnRef} {rss : List (List (List PV))} (h : InvH P C M ⟨bx,et e gf rss ob⟩ w) : ∀ n,n ≤ rss.length →
  ∃ M' ob',M.le M' ∧ InvH P C M' ⟨bx,ob'⟩ w ∧ (∀ t,t < bK → ob' t = ob t) ∧ (∀ i,n ≤ i → ob' (bK + i) = et e gf rss ob (bK + i)) ∧
   ∀ i rs,i < n → rss[i]? = some rs → Rep P M' true (.list e rs) ((gf i).val rs.length)
 | 0,_=>⟨M,_,Mem.le_refl M,h,fun t ht=>famO_low ht,fun i _=>rfl,fun i rs hi=>by omega⟩
 | n + 1,hn=>by
  obtain ⟨M1,ob1,hle1,h1,ha,hb,hc⟩ := InvH.freezeAll h n (by omega)
  obtain ⟨rs,hrs⟩ : ∃ rs,rss[n]? = some rs := ⟨rss[n],ze (by omega)⟩
  have hx := hb n (Nat.le_refl n)
  rw [ec hrs] at hx
  obtain ⟨M2,hle2,h2,hr⟩ := h1.freezeO (tag := bK + n) (x := ⟨gf n,e,rs,true⟩) hx
  refine ⟨M2,_,Mem.le_trans hle1 hle2,h2,fun t ht=>?_,fun i hi=>?_,fun i rs' hi hrs'=>?_⟩
  ·rw [eh _ _ (by omega)]; exact ha t ht
  ·rw [eh _ _ (by omega)]; exact hb i (by omega)
  ·by_cases hin : i = n
   ·subst hin
    rw [hrs] at hrs'
    cases hrs'
    exact hr
   ·exact Rep.mono hle2 (hc i rs' (by omega) hrs')
theorem InvH.freezeFam {bx : Nat → Option Box} {ob : Nat → Option Obj} {t e e' b c : Nat} {gf : Nat → OwnRef} {rss : List (List (List PV))} (h : InvH P C M ⟨bx,et e gf rss ob⟩ w) (hb : bx t = iI b gf rss c)
  {T : TT} (hT : T.Ok P) {ei : TInfo} (hei : T.get e' = some ei) (hsz : ei.size = 1) (hby : rss.length * ei.bytes ≤ 2 ^ 47) (hmx : rss.length ≤ maxLen) :
  ∃ M',M.le M' ∧ InvH P C M' ⟨upd bx t none,et e gf [] ob⟩ w ∧ Rep P M' true (.list e' (rss.map fun rs=>[.list e rs])) (iO b rss.length c) := by
 obtain ⟨M1,ob1,hle1,h1,ha,_,hc⟩ := h.freezeAll rss.length (Nat.le_refl _)
 obtain ⟨i,hi,hs,hbs,_⟩ := (hT.get hei).info
 have hless : ∀ {M : Mem} {bx : Nat → Option Box},InvH P C M ⟨bx,ob1⟩ w → InvH P C M ⟨bx,et e gf [] ob⟩ w := fun h=>h.less (fun _ _ hx=>hx) (fun u x hx=>by
  have hx : et e gf [] ob u = some x := hx
  unfold et at hx
  cases hq : Nat.ble bK u with
  | true=>rw [hq] at hx; simp at hx
  | false =>
   rw [hq] at hx
   have : u < bK := by
    rcases Nat.lt_or_ge u bK with h | h
    ·exact h
    ·rw [show Nat.ble bK u = true from by rw [Nat.ble_eq]; exact h] at hq; cases hq
   show ob1 u = some x
   rw [ha u this]
   exact hx)
 rcases Nat.eq_zero_or_pos (cI rss.length c) with h0 | h0
 ·have hnil : rss = [] := List.length_eq_zero_iff.1 (by have := jw rss.length c; omega)
  subst hnil
  refine ⟨M1,hle1,(hless h1).less (fun u x hx=>?_) (fun _ _ hx=>hx),?_⟩
  ·simp only [cS] at hx
   split at hx
   ·cases hx
   ·exact hx
  ·rw [famV_zero h0]
   simp only [Rep]
   exact ⟨none,0,i,by simp,by simp,by simp,hi,by simp,by simp⟩
 ·rw [pZ h0] at hb
  -- the box,its slices frozen
  obtain ⟨hmine,⟨cs,e0,hcs,hr⟩,hnone⟩ := (h1.boxes t _ hb).cells (pC _ _ _)
  let cells' : List PV := rss.map (fun rs=>PV.list e rs) ++ List.replicate (cI rss.length c - rss.length) (.val (.slice none 0 0))
  have hr' : aA P M1 true cells' cs.toList := by
   have key : ∀ (l : List (List (List PV))) (k : Nat) (r : List PV) (xs : List Value),(∀ j rs,l[j]? = some rs → Rep P M1 true (.list e rs) ((gf (k + j)).val rs.length)) →
     aA P M1 true (l.mapIdx (fun j rs=>PV.own (bK + (k + j)) (gf (k + j)) rs.length) ++ r) xs → aA P M1 true (l.map (fun rs=>PV.list e rs) ++ r) xs := by
    intro l
    induction l with
    | nil=>intro k r xs _ h; simpa using h
    | cons a l ih =>
     intro k r xs hl h
     simp only [List.mapIdx_cons,List.cons_append,aA,List.map_cons] at h ⊢
     obtain ⟨x,ys,rfl,hx,hy⟩ := h
     refine ⟨x,ys,rfl,?_,ih (k + 1) r ys (fun j rs hj=>?_) ?_⟩
     ·simp only [Rep,Nat.add_zero] at hx
      rw [hx.2]
      exact hl 0 a rfl
     ·have := hl (j + 1) rs (by simpa using hj)
      rwa [show k + (j + 1) = k + 1 + j from by omega] at this
     ·have e : (fun (j : Nat) (rs : List (List PV))=>PV.own (bK + (k + (j + 1))) (gf (k + (j + 1))) rs.length) = fun j rs=>PV.own (bK + (k + 1 + j)) (gf (k + 1 + j)) rs.length := by
       funext j rs
       rw [show k + (j + 1) = k + 1 + j from by omega]
      rw [← e]
      exact hy
   refine key rss 0 _ _ (fun j rs hj=>?_) ?_
   ·rw [Nat.zero_add]
    exact hc j rs (zg.1 hj).1 hj
   ·simpa [eN] using hr
  have h2 : InvH P C M1 ⟨upd bx t (some ⟨b,cells'⟩),ob1⟩ w := by
   have key : ∀ u x,upd bx t (some ⟨b,cells'⟩) u = some x → (u = t ∧ x = ⟨b,cells'⟩) ∨ (u ≠ t ∧ bx u = some x) := by
    intro u x hx
    rw [cS] at hx
    split at hx
    ·rename_i e; exact .inl ⟨e,(Option.some.inj hx).symm⟩
    ·rename_i e; exact .inr ⟨e,hx⟩
   refine ⟨h1.mem,h1.ext,h1.new,h1.os,h1.tape,h1.output,h1.size,h1.frame,fun u x hx=>?_,h1.objs,fun u u' x x' hx hx' hbb=>?_,h1.dobj,fun u u' x x' hx hx' hbb=>?_⟩
   ·rcases key u x hx with ⟨_,rfl⟩ | ⟨_,hx⟩
    ·exact ⟨hmine,⟨_,hcs,hr'⟩,hnone⟩
    ·exact h1.boxes u x hx
   ·rcases key u x hx with ⟨q1,q2⟩ | ⟨_,hy⟩ <;> rcases key u' x' hx' with ⟨q3,q4⟩ | ⟨_,hy'⟩
    ·rw [q1,q3]
    ·subst q1; subst q2; exact h1.dbox _ u' _ x' hb hy' hbb
    ·subst q3; subst q4; exact h1.dbox u _ x _ hy hb hbb
    ·exact h1.dbox u u' x x' hy hy' hbb
   ·rcases key u x hx with ⟨q1,q2⟩ | ⟨_,hy⟩
    ·subst q1; subst q2; exact h1.dmix _ u' _ x' hb hx' hbb
    ·exact h1.dmix u u' x x' hy hx' hbb
  have hfl : ∀ l : List PV,(∀ p ∈ l,p.froz = true) → PV.frozL l = true := by
   intro l
   induction l with
   | nil=>intro _; rfl
   | cons a l ih=>intro h; simp [PV.frozL,h a (by simp),ih fun p hp=>h p (by simp [hp])]
  obtain ⟨M2,hle2,h3,hra⟩ := h2.freezeB (tag := t) (x := ⟨b,cells'⟩) (fo _ _ _) (hfl _ (fun p hp=>by
    rcases List.mem_append.1 hp with hp | hp
    ·obtain ⟨rs,_,rfl⟩ := List.mem_map.1 hp; rfl
    ·rw [List.eq_of_mem_replicate hp]; rfl)) (List.all_eq_true.2 fun p hp=>by
    rcases List.mem_append.1 hp with hp | hp
    ·obtain ⟨rs,_,rfl⟩ := List.mem_map.1 hp; rfl
    ·rw [List.eq_of_mem_replicate hp]; rfl)
  refine ⟨M2,Mem.le_trans hle1 hle2,(hless h3).less (fun u x hx=>?_) (fun _ _ hx=>hx),?_⟩
  ·simp only [cS] at hx ⊢
   split at hx
   ·cases hx
   ·rename_i q; simp only [zy q]; exact hx
  ·rw [lm h0]
   simp only [Rep]
   refine ⟨some ⟨b,0,none⟩,cI rss.length c,i,by simp,by simpa using jw _ _,famCap_le _ hmx,hi,by rw [zl,hbs]; exact hby,fun _=>⟨b,0,rfl,?_⟩⟩
   have hs1 : i.size = 1 := by rw [hs]; exact hsz
   rw [hs1]
   refine dc.of_flat (fun r hr=>?_) ?_
   ·obtain ⟨rs,_,rfl⟩ := List.mem_map.1 hr; rfl
   ·rw [flat_single]
    have := cU.take rss.length hra
    have e2 : (cells').take rss.length = rss.map (fun rs=>PV.list e rs) := by
     show (rss.map (fun rs=>PV.list e rs) ++ _).take rss.length = _
     rw [List.take_append_of_le_length (by simp)]
     exact List.take_of_length_le (by simp)
    rw [e2] at this
    exact this
end
section
variable {P : Program} {T : TT} {w : World} {C : Ctx} {M : Mem}
theorem sg (t ty e e0 : TypeId) (i : TypeInfo) (ht : P.underlying t = some (.slice e)) (hi : P.info? e = some i)
  (g sLen sCap : Nat) (cur : Array Value) (hg : w.heap[g]? = some (.cells cur e0 (0,0)))
  (a : Addr) (m c : Nat) (news : List Value) (hl : news.length = m * i.size) (hnews : ∀ j u,news[j]? = some u → w.cell? (a.add j) = some u) (h1 : ∀ u ∈ news,u.oneCell' = true)
  (hroom : sLen + m ≤ sCap) (hfit : sLen * i.size + news.length ≤ cur.size) :
  (Builtin.append_ #[t,t] ty #[.slice (some ⟨g,0,none⟩) sLen sCap,.slice (some a) m c]).run P w =
   .ok (.slice (some ⟨g,0,none⟩) (sLen + m) sCap) (w.setRow g (cur.toList.take (sLen * i.size) ++ news ++ cur.toList.drop (sLen * i.size + news.length)).toArray) := by
 have hf := run_firstCells_some (P := P) w i.size m a m c news hl hnews
 have hst := run_storeCells_at P g (sLen * i.size) e0 news 0 cur w hg (by simpa using hfit) h1
 simp only [Nat.add_zero] at hst
 simp [Builtin.append_,run_underlying ht,sizeOf,typeInfo,hi,Builtin.lenOf,hroom,hf,Addr.add_lit,hst]
theorem repNils {k : Nat} {P : Program} {M : Mem} : aA P M true (List.replicate k (.val (.slice none 0 0))) (List.replicate k (Value.slice none 0 0)) := by
 induction k with
 | zero=>simp [aA]
 | succ k ih=>simp only [List.replicate_succ,aA]; exact ⟨_,_,rfl,by simp [Rep],ih⟩
theorem zeroNils (k : Nat) : (Builtin.zeroCells #[Value.slice none 0 0] k).toList = List.replicate k (Value.slice none 0 0) := by
 unfold Builtin.zeroCells
 rw [ox]
 induction k with
 | zero=>rfl
 | succ k ih=>rw [List.replicate_succ,List.flatten_cons,ih]; rfl
def kH (gf : Nat → OwnRef) (rss : List (List (List PV))) : List PV := rss.mapIdx fun i rs=>PV.own (bK + i) (gf i) rs.length
theorem ny {gf : Nat → OwnRef} {rss : List (List (List PV))} : (kH gf rss).length = rss.length := by simp [kH]
theorem oV {gf : Nat → OwnRef} {rss : List (List (List PV))} {c : Nat} : eN gf rss c = kH gf rss ++ List.replicate (cI rss.length c - rss.length) (.val (.slice none 0 0)) := rfl
theorem lS {gf : Nat → OwnRef} {rss : List (List (List PV))} {c : Nat} {g : OwnRef} : eN (upd gf rss.length g) (rss ++ [[]]) c =
  kH gf rss ++ (.own (bK + rss.length) g 0 :: List.replicate (cI (rss.length + 1) c - (rss.length + 1)) (.val (.slice none 0 0))) := by
 have h : kH (upd gf rss.length g) (rss ++ [[]]) = kH gf rss ++ [.own (bK + rss.length) g 0] := by
  unfold kH
  rw [List.mapIdx_append]
  congr 1
  ·apply List.ext_getElem?
   intro j
   simp only [List.getElem?_mapIdx]
   by_cases hj : j < rss.length
   ·rw [eh _ _ (by omega)]
   ·rw [List.getElem?_eq_none (by omega)]; rfl
  ·simp [fo]
 rw [oV,h]
 simp
theorem pW {bx : Nat → Option Box} {ob : Nat → Option Obj} {t0 b e c : Nat} {gf : Nat → OwnRef} {rss : List (List (List PV))} (hT : T.Ok P) {ei2 : TInfo} (hei2 : T.get e = some ei2)
  (h : InvH P C M ⟨upd bx t0 (some ⟨b,eN (upd gf rss.length ⟨none,0⟩) (rss ++ [[]]) c⟩),et e gf rss ob⟩ w) :
  InvH P C M ⟨upd bx t0 (iI b (upd gf rss.length ⟨none,0⟩) (rss ++ [[]]) c),et e (upd gf rss.length ⟨none,0⟩) (rss ++ [[]]) ob⟩ w := by
 rw [pZ (Nat.lt_of_lt_of_le (by simp) (jw _ _))]
 refine (h.nilobj hT (bK + rss.length) hei2).less (fun _ _ hx=>hx) (fun t x hx=>?_)
 have hx : et e (upd gf rss.length ⟨none,0⟩) (rss ++ [[]]) ob t = some x := hx
 unfold et at hx
 cases hq : Nat.ble bK t with
 | false =>
  rw [hq] at hx
  have ht : t < bK := by
   rcases Nat.lt_or_ge t bK with h | h
   ·exact h
   ·rw [show Nat.ble bK t = true from by rw [Nat.ble_eq]; exact h] at hq; cases hq
  show upd (et e gf rss ob) _ _ t = some x
  rw [eh _ _ (by omega),famO_low ht]
  exact hx
 | true =>
  rw [hq] at hx
  have hle := Nat.le_of_ble_eq_true hq
  simp only [zc,Option.map_eq_some_iff] at hx
  obtain ⟨rs,h1,rfl⟩ := hx
  show upd (et e gf rss ob) _ _ t = _
  by_cases hj : t = bK + rss.length
  ·subst hj
   rw [fo]
   rw [show bK + rss.length - bK = rss.length from by omega] at h1 ⊢
   simp at h1
   rw [fo,← h1]
  ·rw [eh _ _ hj]
   have h2 := (zg.1 h1).1
   simp at h2
   have h3 : t - bK < rss.length := by omega
   rw [List.getElem?_append_left h3] at h1
   have := ec (e := e) (gf := gf) (ob := ob) h1
   rw [show bK + (t - bK) = t from by omega] at this
   rw [this,eh _ _ (by omega)]
theorem appendFam_core {bx : Nat → Option Box} {ob : Nat → Option Obj} {t0 b e e' c : Nat} {gf : Nat → OwnRef} {rss : List (List (List PV))} (hi : InvH P C M ⟨bx,et e gf rss ob⟩ w) (hb : bx t0 = iI b gf rss c) (hT : T.Ok P)
  {t ty : TypeId} {ti ei ei2 : TInfo} (hti : T.get t = some ti) (hd : ti.desc = .slice e') (hei : T.get e' = some ei) (hsz : ei.size = 1) (hz : ei.zero.cells = #[.slice none 0 0]) (hei2 : T.get e = some ei2)
  {v : Value} (hv : Rep P M true (.list e' [[.val (.slice none 0 0)]]) v) (hby : (rss.length + 1) * ei.bytes ≤ 2 ^ 47) (hmx : rss.length + 1 ≤ maxLen) :
  ∃ b' c' w',(Builtin.append_ #[t,t] ty #[iO b rss.length c,v]).run P w = .ok (iO b' (rss.length + 1) c') w' ∧
   InvH P C M ⟨upd bx t0 (iI b' (upd gf rss.length ⟨none,0⟩) (rss ++ [[]]) c'),et e (upd gf rss.length ⟨none,0⟩) (rss ++ [[]]) ob⟩ w' := by
 obtain ⟨i,sa,c0,news,hinf,rfl,_,hnl,_,hcells,hrep,hone⟩ := list_src hi hv
 obtain ⟨i',hinf',hs,hbs,hzero⟩ := (hT.get hei).info
 rw [hinf] at hinf'
 cases hinf'
 have hs1 : i.size = 1 := by rw [hs]; exact hsz
 have hnews : news = [.slice none 0 0] := by
  simp only [List.flatten_cons,List.flatten_nil,List.append_nil,aA,Rep] at hrep
  obtain ⟨x,xs,rfl,rfl,rfl⟩ := hrep
  rfl
 subst hnews
 have hu := (hT.get hti).und
 rw [hd] at hu
 obtain ⟨a,rfl,hac⟩ := hcells (by simp)
 have h63 : ((rss.length + 1 : Nat) : Int) ≤ 9223372036854775807 := by unfold maxLen at hmx; omega
 have hby' : (rss.length + 1) * i.bytes ≤ 140737488355328 := by rw [hbs]; exact hby
 have hcap := jw rss.length c
 rcases Nat.eq_zero_or_pos (cI rss.length c) with h0 | h0
 ·have hnil : rss = [] := List.length_eq_zero_iff.1 (by omega)
  subst hnil
  have hg := run_append_nil (P := P) w t ty e' i ei.zero hu hinf hzero a 1 c0 [.slice none 0 0] hnl hac (by omega) (by simp) (by simp at hby'; omega)
  have hge := grownCap_ge w 1 0 e'
  have hgm : grownCap w 1 0 e' ≤ maxLen := grownCap_le_maxLen w 1 0 e' (by simpa using hmx)
  refine ⟨w.heap.size,grownCap w 1 0 e',_,?_,pW hT hei2 ((show InvH P C M _ w.drew from hi.drew).alloc_box t0 _ (#[.slice none 0 0] ++ Builtin.zeroCells ei.zero.cells (grownCap w 1 0 e' - 1)) e' ?_)⟩
  ·rw [famV_zero h0]
   simp only [List.length_singleton]
   rw [hg,lm (by show 0 < cI 1 _; rw [jP hge hgm]; omega)]
   show _ = Result.ok (Value.slice _ 1 (cI 1 _)) _
   rw [jP hge hgm]
  ·rw [lS]
   simp only [List.length_nil,kH,List.mapIdx_nil,List.nil_append,aA]
   refine ⟨.slice none 0 0,(Builtin.zeroCells ei.zero.cells (grownCap w 1 0 e' - 1)).toList,by rw [Array.toList_append]; rfl,by simp [Rep,OwnRef.val],?_⟩
   rw [hz,zeroNils]
   show aA P M true (List.replicate (cI 1 _ - 1) _) _
   rw [jP hge hgm]
   exact repNils
 ·rw [pZ h0] at hb
  obtain ⟨hmine,⟨cur,e0,hcur,hr⟩,hnone⟩ := (hi.boxes t0 _ hb).cells (pC _ _ _)
  have hsize : cur.size = cI rss.length c := by
   have := hr.length
   rw [nV] at this
   simpa using this
  have hl2 : kH gf rss = (eN gf rss c).take rss.length := by
   rw [oV,List.take_append_of_le_length (by rw [ny]; exact Nat.le_refl _),← ny (gf := gf) (rss := rss),List.take_length]
  have hrt : aA P M true (kH gf rss) (cur.toList.take rss.length) := by rw [hl2]; exact hr.take _
  by_cases hroom : rss.length + 1 ≤ cI rss.length c
  ·have hr2 := sg (P := P) (w := w) t ty e' e0 i hu hinf b rss.length (cI rss.length c) cur hcur a 1 c0 [.slice none 0 0] hnl hac hone hroom (by rw [hs1]; simp; omega)
   have hce : cI (rss.length + 1) (cI rss.length c) = cI rss.length c := jP hroom (famCap_le _ (by omega))
   refine ⟨b,cI rss.length c,_,?_,pW hT hei2 (hi.set_box t0 _ hb (pC _ _ _) _ (cur.toList.take (rss.length * i.size) ++ [Value.slice none 0 0] ++ cur.toList.drop (rss.length * i.size + [Value.slice none 0 0].length)).toArray ?_)⟩
   ·rw [lm h0]
    simp only [List.length_singleton]
    rw [hr2,lm (by rw [hce]; exact h0),hce]
    rfl
   ·rw [lS,hce]
    simp only [hs1,Nat.mul_one,List.append_assoc]
    refine hrt.append ?_
    simp only [List.singleton_append,aA,List.length_singleton]
    refine ⟨_,_,rfl,by simp [Rep,OwnRef.val],?_⟩
    have := hr.drop (rss.length + 1)
    rw [oV,List.drop_append,ny,List.drop_of_length_le (by rw [ny]; omega),List.nil_append,List.drop_replicate] at this
    rwa [show cI rss.length c - rss.length - (rss.length + 1 - rss.length) = cI rss.length c - (rss.length + 1) from by omega] at this
  ·have holdlen : (cur.toList.take rss.length).length = rss.length * i.size := by rw [hs1]; simp; omega
   have holds : ∀ (j : Nat) (v : Value),(cur.toList.take rss.length)[j]? = some v → w.cell? ((⟨b,0,none⟩ : Addr).add j) = some v := by
    intro j v hj
    rw [gF,cell_of_row w b (0 + j) cur e0 (0,0) hcur]
    rw [List.getElem?_take] at hj
    split at hj
    ·simpa using hj
    ·cases hj
   have hr2 := run_append_grow (P := P) w t ty e' i ei.zero hu hinf hzero ⟨b,0,none⟩ rss.length (cI rss.length c) _ holdlen holds a 1 c0 [.slice none 0 0] hnl hac (by omega) h63 (growslice_fits (by omega) hby')
   have hge := grownCap_ge w (rss.length + 1) (cI rss.length c) e'
   have hgm : grownCap w (rss.length + 1) (cI rss.length c) e' ≤ maxLen := grownCap_le_maxLen w _ _ e' hmx
   refine ⟨w.heap.size,grownCap w (rss.length + 1) (cI rss.length c) e',_,?_,pW hT hei2 ((show InvH P C M _ w.drew from hi.drew).alloc_box t0 _ ((cur.toList.take rss.length).toArray ++ #[.slice none 0 0] ++ Builtin.zeroCells ei.zero.cells (grownCap w (rss.length + 1) (cI rss.length c) e' - (rss.length + 1))) e' ?_)⟩
   ·rw [lm h0]
    simp only [List.length_singleton]
    rw [hr2,lm (by rw [jP hge hgm]; omega),jP hge hgm]
   ·rw [lS]
    simp only [Array.toList_append,List.append_assoc]
    refine hrt.append ?_
    simp only [List.singleton_append,aA]
    refine ⟨_,_,rfl,by simp [Rep,OwnRef.val],?_⟩
    rw [hz,zeroNils,jP hge hgm]
    exact repNils
end
section
variable {P : Program} {T : TT} {ops : Array Oper} {rest : List Oper} {o : Oper} {n : Nat} {s s' : Nat → PV} {bx : Nat → Option Box} {ob : Nat → Option Obj} {K : PState → Prop}
theorem tj (t0 e : Nat) (hT : T.Ok P) (hg : aS ops s o = some true) {x y : Operand} {t : TypeId} (ho : o.op = .call { callee := .builtin .append,args := #[x,y],argTypes := #[t,t] }) {d : Nat} (hdst : o.dst = some d) (hlt : Nat.blt d n = true) {ti ei ei2 : TInfo} {e' : TypeId}
  (hti : T.get t = some ti) (hd : ti.desc = .slice e') (hei : T.get e' = some ei) (hsz : ei.size = 1) (hz : ei.zero.cells = #[.slice none 0 0]) (hei2 : T.get e = some ei2) {b c m : Nat} {gf : Nat → OwnRef} {rss : List (List (List PV))} (hx : evS s x = .val (iO b m c)) (hm : m = rss.length)
  (hy : evS s y = .list e' [[.val (.slice none 0 0)]]) (hb : bx t0 = iI b gf rss c) (hby : (rss.length + 1) * ei.bytes ≤ 2 ^ 47) (hmx : rss.length + 1 ≤ maxLen)
  (h : ∀ b' c',Ao P ops rest ⟨n,upd s d (.val (iO b' (m + 1) c')),upd bx t0 (iI b' (upd gf m ⟨none,0⟩) (rss ++ [[]]) c'),et e (upd gf m ⟨none,0⟩) (rss ++ [[]]) ob⟩ K) :
  Ao P ops (o :: rest) ⟨n,s,bx,et e gf rss ob⟩ K := by
 subst hm
 refine ek hg (K := K) ?_
 intro C M a w next Q hi he hn
 have hxr := he x (by rw [ho]; simp [Op.operands,Call.operands])
 have hyr := he y (by rw [ho]; simp [Op.operands,Call.operands])
 rw [hx] at hxr
 rw [hy] at hyr
 simp only [Rep] at hxr
 obtain ⟨b',c',w',hrun,hi'⟩ := appendFam_core (ty := o.type) hi hb hT hti hd hei hsz hz hei2 hyr hby hmx
 have hrun' : (execOp a.eval o).run P w = .ok (.value (iO b' (rss.length + 1) c')) w' := by
  simp only [execOp,ho,resolve,Sem.run_bind,Sem.run_pure,Result.andThen_ok,invoke,builtin,List.map_toArray,List.map_cons,List.map_nil,hxr]
  rw [hrun]
  rfl
 unfold Oper.wp
 rw [hrun']
 exact hn _ (.val (iO b' (rss.length + 1) c')) _ M w' ⟨_,by simp [hdst,putD,hlt],h b' c'⟩ (Mem.le_refl M) hi' (by simp [Rep])
theorem sI (t0 : Nat) (hT : T.Ok P) (hg : aS ops s o = some true) {t : TypeId} {x i : Operand} (ho : o.op = .indexAddr t x i) {ti ei : TInfo} {e' : TypeId} (hti : T.get t = some ti) (hd : ti.desc = .slice e') (hei : T.get e' = some ei) (hes : ei.size = 1)
  {b c m : Nat} (hx : evS s x = .val (iO b m c)) {kk : IntKind} {j : Int} (hi : evS s i = .val (.int kk j)) (hj : 0 ≤ j ∧ j.toNat < m) (hp : putD n s o.dst (.box t0 b j.toNat) = some s') (h : Ao P ops rest ⟨n,s',bx,ob⟩ K) : Ao P ops (o :: rest) ⟨n,s,bx,ob⟩ K := by
 have hpos : 0 < cI m c := Nat.lt_of_lt_of_le (by omega) (jw _ _)
 rw [lm hpos] at hx
 refine rj hg ?_ hp h
 intro C M a w hiv he
 have hxr := he x (by rw [ho]; simp [Op.operands])
 have hir := he i (by rw [ho]; simp [Op.operands])
 rw [hx] at hxr
 rw [hi] at hir
 simp only [Rep] at hxr hir
 have hu := (hT.get hti).rund w
 rw [hd] at hu
 have hsz := (hT.get hei).rsize w
 refine ⟨.pointer (some ⟨b,j.toNat,none⟩),?_,by simp [Rep]⟩
 have h2 : j < (m : Int) := by omega
 simp [execOp,ho,Instr.indexAt,hir,hxr,asIntOf,hu,hj.1,h2,hsz,hes,gF]
theorem tq (t0 e : Nat) (hT : T.Ok P) (hg : aS ops s o = some true) {t e' : TypeId} {ps : Array (Nat × Operand)} (ho : o.op = .buildSlice t 1 ps) {d : Nat} (hdst : o.dst = some d) (hlt : Nat.blt d n = true) {ti ei2 : TInfo} (hti : T.get t = some ti) (hd : ti.desc = .slice e')
  (hr : jM T e' 1 (fT (evS s) ps) = some [[.val (.slice none 0 0)]]) (hei2 : T.get e = some ei2)
  (h : ∀ b' c',Ao P ops rest ⟨n,upd s d (.val (iO b' 1 c')),upd bx t0 (iI b' (fun _=>⟨none,0⟩) [[]] c'),et e (fun _=>⟨none,0⟩) [[]] ob⟩ K) :
  Ao P ops (o :: rest) ⟨n,s,bx,ob⟩ K := by
 refine ek hg (K := K) ?_
 intro C M a w next Q hi he hn
 obtain ⟨i,cs,hinf,hrun,hrep,hone,hlen,hrl,hcs,hby,hn16⟩ := bs_run hT hti hd hr w (fun x hx=>he x (by rw [ho]; simpa [Op.operands] using hx))
 unfold Oper.wp
 have hrun' : (execOp a.eval o).run P w = .ok (.value (iO w.heap.size 1 1)) (w.alloc (.cells cs e')) := by
  simp only [execOp,ho,Sem.run_bind,hrun]
  rfl
 rw [hrun']
 simp only [List.flatten_cons,List.flatten_nil,List.append_nil,aA,Rep] at hrep
 obtain ⟨x,xs,hcc,rfl,rfl⟩ := hrep
 have h0 : InvH P C M ⟨bx,et e (fun _=>⟨none,0⟩) [] ob⟩ w := InvH.famNil e _ hi
 have hg0 : upd (fun _=>(⟨none,0⟩ : OwnRef)) 0 ⟨none,0⟩ = fun _=>⟨none,0⟩ := by funext t; rw [cS]; split <;> rfl
 have hrc : aA P M true (eN (upd (fun _=>(⟨none,0⟩ : OwnRef)) ([] : List (List (List PV))).length ⟨none,0⟩) ([] ++ [[]]) 1) cs.toList := by
  rw [lS,hcc]
  simp only [List.length_nil,kH,List.mapIdx_nil,List.nil_append,aA]
  have e1 : cI (0 + 1) 1 = 1 := jP (Nat.le_refl _) (by unfold maxLen; omega)
  rw [e1]
  exact ⟨_,_,rfl,by simp [Rep,OwnRef.val],by simp [aA]⟩
 have h2 := h0.alloc_box t0 _ cs e' hrc
 have h1 := pW (b := w.heap.size) (c := 1) (t0 := t0) (gf := fun _=>(⟨none,0⟩ : OwnRef)) (rss := []) hT hei2 h2
 simp only [List.length_nil,hg0,List.nil_append] at h1
 exact hn _ (.val (iO w.heap.size 1 1)) _ M _ ⟨_,by simp [hdst,putD,hlt],h w.heap.size 1⟩ (Mem.le_refl M) h1 (by simp [Rep])
theorem sQ {fn : Func} {R : PV → Heap → Prop} {ks : List KI} (d t0 : Nat) (hT : T.Ok P) {e e' b c m : Nat} {ei : TInfo} (hei : T.get e' = some ei) (hes : ei.size = 1) {gf : Nat → OwnRef} {rss : List (List (List PV))} {rows : List (List PV)} (hs : s d = .val (iO b m c)) (hm : m = rss.length)
  (hb : bx t0 = iI b gf rss c) (hby : rss.length * ei.bytes ≤ 2 ^ 47) (hmx : rss.length ≤ maxLen) (hrows : rows = rss.map fun rs=>[.list e rs]) (h : V P fn R ks ⟨n,upd s d (.list e' rows),upd bx t0 none,et e gf [] ob⟩) : V P fn R ks ⟨n,s,bx,et e gf rss ob⟩ := by
 subst hm
 subst hrows
 refine ce ?_ h
 intro C M a w hi
 obtain ⟨M',hle,hi',hr⟩ := hi.2.freezeFam hb hT hei hes hby hmx
 refine ⟨M',⟨hi.1.1,hi.1.2.1,fun t=>?_⟩,hi'⟩
 have := hi.1.2.2 t
 simp only at this
 simp only [cS]
 split
 ·rename_i e; subst e; rw [hs] at this; simp only [Rep] at this; rw [this]; exact hr
 ·exact Rep.mono hle this
end
section
variable {P : Program} {T : TT} {ops : Array Oper} {rest : List Oper} {o : Oper} {n : Nat} {s : Nat → PV} {bx : Nat → Option Box} {ob : Nat → Option Obj} {K : PState → Prop} {fn : Func} {R : PV → Heap → Prop} {k : List KI} {st : PState} {rb : RB} {L : List Nat} {kk : Nat}
theorem PLe.valOwn (P : Program) (tag : Nat) (g : OwnRef) (len : Nat) : PLe P (.val (g.val len)) (.own tag g len) := fun M x h=>by
 simp only [Rep] at h ⊢
 exact ⟨trivial,h⟩
theorem PLe.ownVal (P : Program) (tag : Nat) (g : OwnRef) (len : Nat) : PLe P (.own tag g len) (.val (g.val len)) := fun M x h=>by
 simp only [Rep] at h ⊢
 exact h.2
end
section
variable {P : Program} {n : Nat} {s : Nat → PV} {bx : Nat → Option Box} {ob : Nat → Option Obj} {T : TT}
end
end
end Go.Ab

namespace Go.Proofs.YtlddibnpcmlobaaGreat
noncomputable section
open Go Go.Ab
attribute [local irreducible] V Ao Do Gh Eff PH IntKind.wrap
set_option maxRecDepth 4000
def jp (rec47 : LQuery → Option ((List LQuery))) (q : LQuery) : Option ((List LQuery)) :=
 ah (aM (σ := List LQuery) (ρ := Empty) (fun (_ : Nat) (x1 : LQuery) (s1 : List LQuery) =>
  ah (rec47 x1) fun x17 =>
  ah (dL 160 s1 x17) fun (x18 : List LQuery) =>
  some (.next x18)) 0 q.inputs [q]) fun fl1=>fl1.thenP fun (s1 : List LQuery) =>
 some s1
theorem WO_query_Nodes {m : Nat} (rec47 : LQuery → Option ((List LQuery))) (hrec47 : ∀ m a0 r,rec47 a0 = some r → fE Tryz.prog 47 [(.agg (aK a0))] (kW m 35 (r.map cu))) (q : LQuery) (r : (List LQuery)) (H : jp rec47 q = some r) :
  fE Tryz.prog 47 [(.agg (aK q))] (kW m 35 (r.map cu)) := by
 unfold jp at H
 refine PH.ax Tryz.func47 Tryz.ntmps47 ?_
 refine ab (aa (au ?_))
 refine ak tk rfl (ac (ab (aa (ak tk rfl ?_))))
 refine mu (rows' := List.map cu ([q] : List LQuery)) tk rfl rfl rfl rfl rfl rfl rfl (congrArg (List.map List.length) (rowsLit ci ([q] : List LQuery))).symm rfl (iB.trans (b := (List.map aK ([q] : List LQuery)).flatten) (iB.refl _) (iB.of_eq (congrArg List.flatten (rowsLit ci ([q] : List LQuery))))) fun g7=>?_
 refine ak tk rfl (ac (ab (ab (aa (aj 2 tk rfl (aG tk (zl _) ?_))))))
 refine ak tk rfl (ac ?_)
 refine iv (γ := OwnRef) tk 11 10 9 (fun s1 g1=>upd (fun _=>.any) 3 (.own 7 g1 (s1.map cu).length)) nB (fun s1 g1=>upd (fun _=>none) 7 (some ⟨g1,35,(s1.map cu),true⟩)) g7 H (fun fl1 Hp1 j1 s1 g1 hz1 hl1 x1 fb1 hx1 H hg1=>?_) (fun s1 g1 H=>?_)
 ·refine ab (ap (ab (aa (bd tk (zn j1) (bD ci hx1) ?_))))
  refine ak tk rfl ?_
  refine aY tk fun b5=>?_
  refine ag tk ?_
  refine ac (aa (ak tk rfl (ai tk ?_)))
  obtain ⟨x17,h17,H⟩ := aE H
  have s17 := hrec47 17 x1 _ h17
  refine ae Tryz.call47 (fu.r) (PFun.jy s17) ?_
  obtain ⟨x18,h18,H⟩ := aE H
  have k18 := cV h18
  refine cy (rows2' := List.map cu x17) (rows' := List.map cu x18) tk rfl rfl rfl rfl rfl rfl rfl rfl rfl rfl rfl rfl rfl (je.refl _) (eu k18.1) (er k18.2.1) (eB k18.2.2) fun g18=>?_
  refine ak tk rfl (ac (aw (bm 2 tk rfl ?_)))
  exact bG g18 H hl1 hg1
 refine av 2 tk rfl ?_
 obtain rfl := aI H
 refine iA tk rfl
def jl : Nat → LQuery → Option ((List LQuery))
 | 0,_=>none
 | n + 1,v0=>jp (fun b0=>jl n b0) v0
theorem WF_query_Nodes  (n : Nat) : (∀ m a0 r,jl n a0 = some r → fE Tryz.prog 47 [(.agg (aK a0))] (kW m 35 (r.map cu))) := by
 induction n with
 | zero=>exact (by intros; rename_i h; exact absurd (show (none : Option _) = some _ from h) (by simp))
 | succ n ih =>
  exact (fun m v0 r h=>WO_query_Nodes (m := m) (fun b0=>jl n b0) ih v0  r h)
def jm (q : LQuery) : Option ((List LQuery)) := ja fun n=>jl n q
theorem qw {m : Nat} (q : LQuery) (r : (List LQuery)) (H : jm q = some r) :
  fE Tryz.prog 47 [(.agg (aK q))] (kW m 35 (r.map cu)) := by
 obtain ⟨n,h⟩ := jR H
 exact (WF_query_Nodes  n) m q r h
def jn (rec49 : LQuery → Option (Int)) (q : LQuery) : Option (Int) :=
 ah (aM (σ := Int) (ρ := Empty) (fun (_ : Nat) (x1 : LQuery) (s1 : Int) =>
  ah (rec49 x1) fun x15 =>
  some (.next (if x15 > s1 then x15 else s1))) 0 q.inputs 0) fun fl1=>fl1.thenP fun (s1 : Int) =>
 some (IntKind.i64.wrap (s1 + (1 : Int)))
theorem WO_query_depth (rec49 : LQuery → Option (Int)) (hrec49 : ∀ a0 r,rec49 a0 = some r → aT Tryz.prog 49 [(.agg (aK a0))] (al r)) (q : LQuery) (r : Int) (H : jn rec49 q = some r) :
  aT Tryz.prog 49 [(.agg (aK q))] (al r) := by
 unfold jn at H
 refine PH.ax Tryz.func49 Tryz.ntmps49 ?_
 refine ab (aa (au ?_))
 refine ak tk rfl (ac (av 1 tk rfl (ab (ab (aa (aj 2 tk rfl (aG tk (zl _) ?_)))))))
 refine ak tk rfl (ac ?_)
 refine iv tk 9 8 7 (fun s1 g1=>upd (fun _=>.any) 3 (al s1)) nB nO () H (fun fl1 Hp1 j1 s1 g1 hz1 hl1 x1 fb1 hx1 H hg1=>?_) (fun s1 g1 H=>?_)
 ·refine ab (ap (ab (aa (bd tk (zn j1) (bD ci hx1) ?_))))
  refine ak tk rfl ?_
  refine aY tk fun b5=>?_
  refine ag tk ?_
  refine ac (aa (ak tk rfl (ai tk ?_)))
  obtain ⟨x15,h15,H⟩ := aE H
  have s15 := hrec49 x1 _ h15
  refine ae Tryz.call49 (fu.r) s15 ?_
  refine aj 2 tk rfl (ac (aw (bm 2 tk rfl ?_)))
  exact bG () H hl1 hg1
 refine av 3 tk rfl ?_
 exact bu tk H rfl
def jo : Nat → LQuery → Option (Int)
 | 0,_=>none
 | n + 1,v0=>jn (fun b0=>jo n b0) v0
theorem WF_query_depth  (n : Nat) : (∀ a0 r,jo n a0 = some r → aT Tryz.prog 49 [(.agg (aK a0))] (al r)) := by
 induction n with
 | zero=>exact (by intros; rename_i h; exact absurd (show (none : Option _) = some _ from h) (by simp))
 | succ n ih =>
  exact (fun v0 r h=>WO_query_depth (fun b0=>jo n b0) ih v0  r h)
def ke (q : LQuery) : Option (Int) := ja fun n=>jo n q
theorem W_query_depth (q : LQuery) (r : Int) (H : ke q = some r) :
  aT Tryz.prog 49 [(.agg (aK q))] (al r) := by
 obtain ⟨n,h⟩ := jR H
 exact (WF_query_depth  n) q r h
def jN (rec72 : LQuery → Option (Int × Int)) (q : LQuery) : Option (Int × Int) :=
 ah (aM (σ := Int × Int) (ρ := Empty) (fun (j1 : Nat) (x1 : LQuery) (s1 : Int × Int) =>
  ah (rec72 x1) fun x20 =>
  cond ((j1 : Int) == (0 : Int))
   (some (.next ((if (20001 : Int) < x20.1 then (20001 : Int) else x20.1),(if x20.2 > s1.2 then x20.2 else s1.2))))
   (cond (q.kind == (6 : Int))
    (some (.next ((if (20001 : Int) < (IntKind.i64.wrap (s1.1 + x20.1)) then (20001 : Int) else (IntKind.i64.wrap (s1.1 + x20.1))),(if x20.2 > s1.2 then x20.2 else s1.2))))
    (bH (
     cond (q.kind == (4 : Int))
      (true)
      ((q.kind == (5 : Int)))) fun (t4 : Bool) =>
    cond t4
     (some (.next ((if (20001 : Int) < (IntKind.i64.wrap (s1.1 * (if x20.1 > (1 : Int) then x20.1 else (1 : Int)))) then (20001 : Int) else (IntKind.i64.wrap (s1.1 * (if x20.1 > (1 : Int) then x20.1 else (1 : Int))))),(if x20.2 > s1.2 then x20.2 else s1.2))))
     (some (.next ((if (20001 : Int) < s1.1 then (20001 : Int) else s1.1),(if x20.2 > s1.2 then x20.2 else s1.2))))))) 0 q.inputs (0,0)) fun fl1=>fl1.thenP fun (s1 : Int × Int) =>
 cond (q.kind == (1 : Int))
  (some (24,(if (24 : Int) > s1.2 then (24 : Int) else s1.2)))
  (some (s1.1,(if s1.1 > s1.2 then s1.1 else s1.2)))
theorem WO_query_most (rec72 : LQuery → Option (Int × Int)) (hrec72 : ∀ a0 r,rec72 a0 = some r → aT Tryz.prog 72 [(.agg (aK a0))] (.tup [(al r.1),(al r.2)])) (q : LQuery) (r : Int × Int) (H : jN rec72 q = some r) :
  aT Tryz.prog 72 [(.agg (aK q))] (.tup [(al r.1),(al r.2)]) := by
 unfold jN at H
 refine PH.ax Tryz.func72 Tryz.ntmps72 ?_
 refine ab (aa (au ?_))
 refine aj 2 tk rfl (ac (av 2 tk rfl (ab (ab (aa (aj 2 tk rfl (aG tk (zl _) ?_)))))))
 refine ak tk rfl (ac ?_)
 refine iv tk 13 12 11 (fun s1 g1=>upd (upd (upd (fun _=>.any) 5 (al s1.2)) 4 (al s1.1)) 1 (.ptr (aK q))) nB nO () H (fun fl1 Hp1 j1 s1 g1 hz1 hl1 x1 fb1 hx1 H hg1=>?_) (fun s1 g1 H=>?_)
 ·refine ab (ap (ab (aa (ak tk rfl (bd tk (zn j1) (bD ci hx1) ?_)))))
  refine ak tk rfl ?_
  refine aY tk fun b7=>?_
  refine ak tk rfl (ag tk ?_)
  refine ac (ab (aa (ai tk ?_)))
  obtain ⟨x20,h20,H⟩ := aE H
  have s20 := hrec72 x1 _ h20
  refine ae Tryz.call72 (fu.r) s20 ?_
  refine aj 5 tk rfl (ac (av 4 tk rfl (ab (ap (av 3 tk rfl ?_)))))
  refine aN rfl H (fun H=>?_) (fun H=>?_)
  ·refine bm 2 tk rfl (aw (bm 3 tk rfl (aw (bm 2 tk rfl ?_))))
   exact bG () H hl1 hg1
  refine av 4 tk rfl ?_
  refine aN rfl H (fun H=>?_) (fun H=>?_)
  ·refine bm 4 tk rfl (aw (bm 3 tk rfl (aw (bm 2 tk rfl ?_))))
   exact bG () H hl1 hg1
  refine ab ?_
  refine gw (γ := Unit) (fun t4 g4=>⟨60,upd (upd (upd (upd (upd (upd (upd (upd (fun _=>.any) 37 (aL t4)) 13 (al (j1 : Int))) 12 (al (q.inputs.length : Int))) 11 (.list 35 (q.inputs.map cu))) 8 (al x20.1)) 5 (al (if x20.2 > s1.2 then x20.2 else s1.2))) 4 (al s1.1)) 1 (.ptr (aK q)),fun _=>none,fun _=>none⟩) H (fun _ H=>?_) (fun t4 g4 H=>?_)
  ·refine aa (aj 4 tk rfl ?_)
   refine bF rfl rfl rfl H (fun H=>?_) (fun H=>?_)
   ·refine aj 5 tk rfl (ac ?_)
    refine bp _ () H Gh.d
   refine aj 5 tk rfl (ac ?_)
   refine bp _ () H Gh.d
  refine aN rfl H (fun H=>?_) (fun H=>?_)
  ·refine bm 5 tk rfl (aw (bm 3 tk rfl (aw (bm 2 tk rfl ?_))))
   exact bG () H hl1 hg1
  refine ao (aw (bm 3 tk rfl (aw (bm 2 tk rfl ?_))))
  exact bG () H hl1 hg1
 refine ab (av 3 tk rfl ?_)
 refine aN rfl H (fun H=>?_) (fun H=>?_)
 ·refine bm 1 tk rfl (av 6 tk rfl ?_)
  exact bu tk H rfl
 refine ao (av 6 tk rfl ?_)
 exact bu tk H rfl
def jO : Nat → LQuery → Option (Int × Int)
 | 0,_=>none
 | n + 1,v0=>jN (fun b0=>jO n b0) v0
theorem WF_query_most  (n : Nat) : (∀ a0 r,jO n a0 = some r → aT Tryz.prog 72 [(.agg (aK a0))] (.tup [(al r.1),(al r.2)])) := by
 induction n with
 | zero=>exact (by intros; rename_i h; exact absurd (show (none : Option _) = some _ from h) (by simp))
 | succ n ih =>
  exact (fun v0 r h=>WO_query_most (fun b0=>jO n b0) ih v0  r h)
def lU (q : LQuery) : Option (Int × Int) := ja fun n=>jO n q
theorem W_query_most (q : LQuery) (r : Int × Int) (H : lU q = some r) :
  aT Tryz.prog 72 [(.agg (aK q))] (.tup [(al r.1),(al r.2)]) := by
 obtain ⟨n,h⟩ := jR H
 exact (WF_query_most  n) q r h
def gQ (rec46 : LExpr → (List Int) → Bool → (List Bool) → Option ((List Int) × Bool × (List Bool))) (e : LExpr) (c0 : List Int) (c1 : Bool) (c2 : List Bool) : Option ((List Int) × Bool × (List Bool)) :=
 bH (
  cond (e.kind == (3 : Int))
   (cond (decide (e.index ≥ (0 : Int)))
    ((decide (e.index < (8 : Int))))
    (false))
   (false)) fun (t1 : Bool) =>
 ah (
  cond t1
   (ah (fD (σ := List Int) (ρ := Empty) (fun (s7 : List Int) =>
    cond (decide ((s7.length : Int) ≤ e.index))
     (ah (dL 8 s7 ([0] : List Int)) fun (x28 : List Int) =>
     some (.next x28))
     (some (.brk s7))) c0) fun fl7=>fl7.thenP fun (s7 : List Int) =>
   ah (
    cond c1
     (some true)
     (ah (arrI 8 c2 e.index) fun (x33 : Bool) =>
     cond x33
      (ah (aO s7 e.index) fun (x39 : Int) =>
      some (x39 != e.value.kind))
      (some false))) fun (t8 : Bool) =>
   ah (aO s7 e.index) fun (_ : Int) =>
   bH (s7.set e.index.toNat e.value.kind) fun (y9 : List Int) =>
   ah (arrI 8 c2 e.index) fun (_ : Bool) =>
   bH (c2.set e.index.toNat true) fun (y10 : List Bool) =>
   some (y9,t8,y10))
   (some (c0,c1,c2))) fun (t6 : List Int × Bool × List Bool) =>
 ah (aM (σ := List Int × Bool × List Bool) (ρ := Empty) (fun (_ : Nat) (x11 : LExpr) (s11 : List Int × Bool × List Bool) =>
  ah (rec46 x11 s11.1 s11.2.1 s11.2.2) fun x66 =>
  some (.next (x66.1,x66.2.1,x66.2.2))) 0 e.args (t6.1,t6.2.1,t6.2.2)) fun fl11=>fl11.thenP fun (s11 : List Int × Bool × List Bool) =>
 some (s11.1,s11.2.1,s11.2.2)
theorem nq (b_c0 : Nat) (g_c0 : OwnRef) (b_c1 : Nat) (b_c2 : Nat) (b_c3 : Nat) (rec46 : LExpr → (List Int) → Bool → (List Bool) → Option ((List Int) × Bool × (List Bool))) (hrec46 : ∀ bq0 gq0 bq1 bq2 bq3 a0 a1 a2 a3 r,rec46 a0 a1 a2 a3 = some r → PH Tryz.prog 46 [(.agg (im a0)),(.box 1000 bq0 0),(.box 1001 bq1 0),(.box 1002 bq2 0),(.box 1003 bq3 0)] ⟨upd (upd (upd (upd (fun _=>none) 1003 (some ⟨bq3,[(.fn 46 [(.box 1000 bq0 0),(.box 1001 bq1 0),(.box 1002 bq2 0),(.box 1003 bq3 0)])]⟩)) 1002 (some ⟨bq2,(List.map aL a3)⟩)) 1001 (some ⟨bq1,[(aL a2)]⟩)) 1000 (some ⟨bq0,[(.own 1100 gq0 (a1.map bV).length)]⟩),upd (fun _=>none) 1100 (some ⟨gq0,3,(a1.map bV),true⟩)⟩ (fun u H=>∃ gz0,u = (.tup []) ∧ H = ⟨upd (upd (upd (upd (fun _=>none) 1003 (some ⟨bq3,[(.fn 46 [(.box 1000 bq0 0),(.box 1001 bq1 0),(.box 1002 bq2 0),(.box 1003 bq3 0)])]⟩)) 1002 (some ⟨bq2,(List.map aL r.2.2)⟩)) 1001 (some ⟨bq1,[(aL r.2.1)]⟩)) 1000 (some ⟨bq0,[(.own 1100 gz0 (r.1.map bV).length)]⟩),upd (fun _=>none) 1100 (some ⟨gz0,3,(r.1.map bV),true⟩)⟩)) (e : LExpr) (c0 : List Int) (c1 : Bool) (c2 : List Bool) (r : (List Int) × Bool × (List Bool)) (H : gQ rec46 e c0 c1 c2 = some r) :
  PH Tryz.prog 46 [(.agg (im e)),(.box 1000 b_c0 0),(.box 1001 b_c1 0),(.box 1002 b_c2 0),(.box 1003 b_c3 0)] ⟨upd (upd (upd (upd (fun _=>none) 1003 (some ⟨b_c3,[(.fn 46 [(.box 1000 b_c0 0),(.box 1001 b_c1 0),(.box 1002 b_c2 0),(.box 1003 b_c3 0)])]⟩)) 1002 (some ⟨b_c2,(List.map aL c2)⟩)) 1001 (some ⟨b_c1,[(aL c1)]⟩)) 1000 (some ⟨b_c0,[(.own 1100 g_c0 (c0.map bV).length)]⟩),upd (fun _=>none) 1100 (some ⟨g_c0,3,(c0.map bV),true⟩)⟩ (fun u H=>∃ gz0,u = (.tup []) ∧ H = ⟨upd (upd (upd (upd (fun _=>none) 1003 (some ⟨b_c3,[(.fn 46 [(.box 1000 b_c0 0),(.box 1001 b_c1 0),(.box 1002 b_c2 0),(.box 1003 b_c3 0)])]⟩)) 1002 (some ⟨b_c2,(List.map aL r.2.2)⟩)) 1001 (some ⟨b_c1,[(aL r.2.1)]⟩)) 1000 (some ⟨b_c0,[(.own 1100 gz0 (r.1.map bV).length)]⟩),upd (fun _=>none) 1100 (some ⟨gz0,3,(r.1.map bV),true⟩)⟩) := by
 unfold gQ at H
 refine PH.ax Tryz.func46 Tryz.ntmps46 ?_
 refine ab (aa (au ?_))
 refine ac (ab (ab ?_))
 refine gw (γ := Unit) (fun t1 g1=>⟨68,upd (upd (upd (upd (upd (upd (fun _=>.any) 20 (aL t1)) 5 (.ptr (im e))) 4 (.box 1003 b_c3 0)) 3 (.box 1002 b_c2 0)) 2 (.box 1001 b_c1 0)) 1 (.box 1000 b_c0 0),upd (upd (upd (upd (fun _=>none) 1003 (some ⟨b_c3,[(.fn 46 [(.box 1000 b_c0 0),(.box 1001 b_c1 0),(.box 1002 b_c2 0),(.box 1003 b_c3 0)])]⟩)) 1002 (some ⟨b_c2,(List.map aL c2)⟩)) 1001 (some ⟨b_c1,[(aL c1)]⟩)) 1000 (some ⟨b_c0,[(.own 1100 g_c0 (c0.map bV).length)]⟩),upd (fun _=>none) 1100 (some ⟨g_c0,3,(c0.map bV),true⟩)⟩) H (fun _ H=>?_) (fun t1 g1 H=>?_)
 ·refine aa (aj 4 tk rfl ?_)
  refine bF rfl rfl rfl H (fun H=>?_) (fun H=>?_)
  ·refine aj 5 tk rfl ?_
   refine bF rfl rfl rfl H (fun H=>?_) (fun H=>?_)
   ·refine aj 4 tk rfl (ac ?_)
    refine bp _ () H Gh.d
   refine aj 4 tk rfl (ac ?_)
   refine bp _ () H Gh.d
  refine aj 9 tk rfl (ac ?_)
  refine bp _ () H Gh.d
 refine gS (γ := OwnRef) (fun t6 g6=>⟨68,upd (upd (upd (upd (upd (fun _=>.any) 5 (.ptr (im e))) 4 (.box 1003 b_c3 0)) 3 (.box 1002 b_c2 0)) 2 (.box 1001 b_c1 0)) 1 (.box 1000 b_c0 0),upd (upd (upd (upd (fun _=>none) 1003 (some ⟨b_c3,[(.fn 46 [(.box 1000 b_c0 0),(.box 1001 b_c1 0),(.box 1002 b_c2 0),(.box 1003 b_c3 0)])]⟩)) 1002 (some ⟨b_c2,(List.map aL t6.2.2)⟩)) 1001 (some ⟨b_c1,[(aL t6.2.1)]⟩)) 1000 (some ⟨b_c0,[(.own 1100 g6 (t6.1.map bV).length)]⟩),upd (fun _=>none) 1100 (some ⟨g6,3,(t6.1.map bV),true⟩)⟩) H (fun _ H=>?_) (fun t6 g6 H=>?_)
 ·refine aN rfl H (fun H=>?_) (fun H=>?_)
  ·refine ab ?_
   obtain ⟨fl7,H7,Hp7⟩ := aE H
   refine fA (τ := List Int) (γ := OwnRef) (fun s7 g7=>⟨68,upd (upd (upd (upd (upd (fun _=>.any) 5 (.ptr (im e))) 4 (.box 1003 b_c3 0)) 3 (.box 1002 b_c2 0)) 2 (.box 1001 b_c1 0)) 1 (.box 1000 b_c0 0),upd (upd (upd (upd (fun _=>none) 1003 (some ⟨b_c3,[(.fn 46 [(.box 1000 b_c0 0),(.box 1001 b_c1 0),(.box 1002 b_c2 0),(.box 1003 b_c3 0)])]⟩)) 1002 (some ⟨b_c2,(List.map aL c2)⟩)) 1001 (some ⟨b_c1,[(aL c1)]⟩)) 1000 (some ⟨b_c0,[(.own 1100 g7 (s7.map bV).length)]⟩),upd (fun _=>none) 1100 (some ⟨g7,3,(s7.map bV),true⟩)⟩) (fun t=>fl7 = .next t) ?_ (fun s7 g7 hn7=>?_)
   ·refine ap ?_
    refine gM (fun s7 g7=>⟨68,upd (upd (upd (upd (upd (fun _=>.any) 5 (.ptr (im e))) 4 (.box 1003 b_c3 0)) 3 (.box 1002 b_c2 0)) 2 (.box 1001 b_c1 0)) 1 (.box 1000 b_c0 0),upd (upd (upd (upd (fun _=>none) 1003 (some ⟨b_c3,[(.fn 46 [(.box 1000 b_c0 0),(.box 1001 b_c1 0),(.box 1002 b_c2 0),(.box 1003 b_c3 0)])]⟩)) 1002 (some ⟨b_c2,(List.map aL c2)⟩)) 1001 (some ⟨b_c1,[(aL c1)]⟩)) 1000 (some ⟨b_c0,[(.own 1100 g7 (s7.map bV).length)]⟩),upd (fun _=>none) 1100 (some ⟨g7,3,(s7.map bV),true⟩)⟩) g_c0 H7 Gh.d (fun m7 s7 g7 hr7=>?_)
    obtain ⟨fb7,H,hg7⟩ := ft hr7
    refine ab (ab (aa (ai tk ?_)))
    refine gO tk (zl _) ?_
    refine aj 3 tk rfl (ac ?_)
    refine aN rfl H (fun H=>?_) (fun H=>?_)
    ·refine ao (ap (aa (ai tk ?_)))
     refine cz tk (rows' := List.map bV ([0] : List Int)) (je.refl _) ?_
     obtain ⟨x28,h28,H⟩ := aE H
     have k28 := cV h28
     refine cy (rows2' := List.map bV ([0] : List Int)) (rows' := List.map bV x28) tk rfl rfl rfl rfl rfl rfl rfl rfl rfl rfl rfl rfl rfl (je.refl _) (eu k28.1) (er k28.2.1) (eB k28.2.2) fun g28=>?_
     refine ag tk ?_
     refine ac (aw ?_)
     obtain rfl := aI H
     refine eg x28 g28 hg7 Gh.d
    refine aD rfl ?_
    obtain rfl := aI H
    refine bp s7 g7 hg7 Gh.d
   have H := dC hn7 Hp7
   refine ab ?_
   refine gS (γ := Unit) (fun t8 g8=>⟨68,upd (upd (upd (upd (upd (fun _=>.any) 5 (.ptr (im e))) 4 (.box 1003 b_c3 0)) 3 (.box 1002 b_c2 0)) 2 (.box 1001 b_c1 0)) 1 (.box 1000 b_c0 0),upd (upd (upd (upd (fun _=>none) 1003 (some ⟨b_c3,[(.fn 46 [(.box 1000 b_c0 0),(.box 1001 b_c1 0),(.box 1002 b_c2 0),(.box 1003 b_c3 0)])]⟩)) 1002 (some ⟨b_c2,(List.map aL c2)⟩)) 1001 (some ⟨b_c1,[(aL t8)]⟩)) 1000 (some ⟨b_c0,[(.own 1100 g7 (s7.map bV).length)]⟩),upd (fun _=>none) 1100 (some ⟨g7,3,(s7.map bV),true⟩)⟩) H (fun _ H=>?_) (fun t8 g8 H=>?_)
   ·refine gL (tag := 1100) rfl (fun ho1100=>?_)
    refine aJ tk mok ⟨true,true,[32,38,43]⟩ [0,1,2,3,4,5,6,7,8,9,10,11,12,13,14,15,16,17,18] rfl (by decide +kernel) rfl (aH ?_)
    refine bo rfl ?_
    refine mL H (fun H=>?_) (fun H=>?_)
    ·refine bc 16 rfl (bQ rfl rfl rfl rfl rfl rfl rfl rfl rfl rfl rfl rfl (aP ?_))
     refine bp _ () (aI H) Gh.d
    refine bc 2 rfl ?_
    obtain ⟨x33,h33,H⟩ := aE H
    have k33 := arrI_some h33
    refine sU rfl rfl rfl rfl rfl rfl rfl rfl rfl k33.1 rfl ?_
    refine tD rfl rfl rfl rfl rfl rfl rfl rfl (by rw [List.getElem?_map,k33.2]; rfl) rfl ?_
    refine bo rfl ?_
    refine mL H (fun H=>?_) (fun H=>?_)
    ·refine aH ?_
     refine bc 2 rfl ?_
     obtain ⟨x39,k39,H⟩ := bL H
     refine de tk ⟨k39.1,(dT k39.2)⟩ (dY ho1100 k39.2) ?_
     refine fG tk rfl rfl rfl rfl rfl rfl rfl rfl rfl (aX (fun _=>rfl) k39.2) rfl rfl ?_
     refine bc 6 rfl (bQ rfl rfl rfl rfl rfl rfl rfl rfl rfl rfl rfl rfl (aP ?_))
     refine bp _ () (aI H) Gh.d
    refine bc 11 rfl (bQ rfl rfl rfl rfl rfl rfl rfl rfl rfl rfl rfl rfl (aP ?_))
    refine bp _ () (aI H) Gh.d
   refine gL (tag := 1100) rfl (fun ho1100=>?_)
   refine aJ tk mok ⟨true,false,[49,51,54]⟩ [0,1,2,3,4,5,6,7,8,9,10,11] rfl (by decide +kernel) rfl (aH ?_)
   refine bc 7 rfl ?_
   obtain ⟨x55,k55,H⟩ := bL H
   refine de tk ⟨k55.1,(dT k55.2)⟩ (dY ho1100 k55.2) ?_
   obtain ⟨y9,hy9,H⟩ := db H
   refine iy tk rfl rfl rfl rfl rfl rfl rfl rfl rfl (by rw [zl]; exact (zg.1 k55.2).1) (PLe.refl _ _) rfl rfl rfl rfl (by decide) (fM (fun _=>rfl) k55.2 rfl hy9) ?_
   obtain ⟨x56,h56,H⟩ := aE H
   have k56 := arrI_some h56
   refine sU rfl rfl rfl rfl rfl rfl rfl rfl rfl k56.1 rfl ?_
   obtain ⟨y10,hy10,H⟩ := db H
   refine tn rfl rfl rfl rfl rfl rfl rfl rfl rfl rfl (by rw [zl]; exact (zg.1 k56.2).1) (splice_map aL _ _ _ (zg.1 k56.2).1 hy10) ?_
   refine aP ?_
   refine bp _ g7 (aI H) (Gh.le (ay (ay (ay (ay (ay br))))) (bC rfl (fu.of2 (iB.cons (PLe2.of_eq (congrArg (PV.own 1100 g7) (fh (f := bV) hy9))) iB.nil)) (bC rfl (fu.r) (bC rfl (fu.r) (bC rfl (fu.r) aV)))) (bI aU))
  refine ao ?_
  refine bp _ g_c0 (aI H) Gh.d
 refine ab (aa (aj 2 tk rfl (aG tk (zl _) ?_)))
 refine ak tk rfl (ac ?_)
 refine iv (γ := OwnRef) tk 60 59 58 (fun s11 g11=>upd (upd (upd (upd (fun _=>.any) 4 (.box 1003 b_c3 0)) 3 (.box 1002 b_c2 0)) 2 (.box 1001 b_c1 0)) 1 (.box 1000 b_c0 0)) (fun s11 g11=>upd (upd (upd (upd (fun _=>none) 1003 (some ⟨b_c3,[(.fn 46 [(.box 1000 b_c0 0),(.box 1001 b_c1 0),(.box 1002 b_c2 0),(.box 1003 b_c3 0)])]⟩)) 1002 (some ⟨b_c2,(List.map aL s11.2.2)⟩)) 1001 (some ⟨b_c1,[(aL s11.2.1)]⟩)) 1000 (some ⟨b_c0,[(.own 1100 g11 (s11.1.map bV).length)]⟩)) (fun s11 g11=>upd (fun _=>none) 1100 (some ⟨g11,3,(s11.1.map bV),true⟩)) g6 H (fun fl11 Hp11 j11 s11 g11 hz11 hl11 x11 fb11 hx11 H hg11=>?_) (fun s11 g11 H=>?_)
 ·refine ab (ap (ab (aa (bd tk (zn j11) (bD dq hx11) ?_))))
  refine ak tk rfl ?_
  refine aY tk fun b7=>?_
  refine ag tk ?_
  refine ac (aa (ai tk ?_))
  refine ai tk ?_
  obtain ⟨x66,h66,H⟩ := aE H
  have s66 := hrec46 b_c0 g11 b_c1 b_c2 b_c3 x11 s11.1 s11.2.1 s11.2.2 _ h66
  refine dM (st' := ⟨_,_,upd (upd (upd (upd (upd (fun _=>none) 1003 (some ⟨b_c3,[(.fn 46 [(.box 1000 b_c0 0),(.box 1001 b_c1 0),(.box 1002 b_c2 0),(.box 1003 b_c3 0)])]⟩)) 1002 (some ⟨b_c2,(List.map aL s11.2.2)⟩)) 1001 (some ⟨b_c1,[(aL s11.2.1)]⟩)) 1000 (some ⟨b_c0,[(.own 1100 g11 (s11.1.map bV).length)]⟩)) 7 (some ⟨b7,(im x11)⟩),upd (fun _=>none) 1100 (some ⟨g11,3,(s11.1.map bV),true⟩)⟩) (Gh.le (dj _ _) (bC rfl (fu.r) (bC rfl (fu.of2 (iB.cons (PLe2.own rfl) iB.nil)) (bC rfl (fu.r) (bC rfl (fu.r) (bC rfl (fu.of2 (iB.cons (PLe2.fn (iB.cons PLe2.boxT (iB.cons PLe2.boxT (iB.cons PLe2.boxT (iB.cons PLe2.boxT iB.nil))))) iB.nil)) aV))))) (bI aU)) ?_
  refine ew (g := 46) rfl rfl rfl Tryz.call46 [(1000,1000),(1001,1001),(1002,1002),(1003,1003)] [(1100,1100)] rfl rfl rfl rfl (fu.of2 (iB.cons (PLe2.of_eq rfl) (iB.cons PLe2.boxT (iB.cons PLe2.boxT (iB.cons PLe2.boxT (iB.cons PLe2.boxT iB.nil)))))) (by rw [gg,gg,gg,gg,dS,dr,dQ]; rfl) s66 ?_
  rintro u66 H66h ⟨gz66_0,rfl,rfl⟩
  refine ⟨_,rfl,?_⟩
  refine dM (st' := ⟨_,_,upd (upd (upd (upd (upd (fun _=>none) 1003 (some ⟨b_c3,[(.fn 46 [(.box 1000 b_c0 0),(.box 1001 b_c1 0),(.box 1002 b_c2 0),(.box 1003 b_c3 0)])]⟩)) 1002 (some ⟨b_c2,(List.map aL x66.2.2)⟩)) 1001 (some ⟨b_c1,[(aL x66.2.1)]⟩)) 1000 (some ⟨b_c0,[(.own 1100 gz66_0 (x66.1.map bV).length)]⟩)) 7 (some ⟨b7,(im x11)⟩),upd (fun _=>none) 1100 (some ⟨gz66_0,3,(x66.1.map bV),true⟩)⟩) (Gh.le (dj _ _) (bC rfl (fu.r) (bC rfl (fu.of2 (iB.cons (PLe2.own rfl) iB.nil)) (bC rfl (fu.r) (bC rfl (fu.r) (bC rfl (fu.of2 (iB.cons (PLe2.fn (iB.cons PLe2.boxT (iB.cons PLe2.boxT (iB.cons PLe2.boxT (iB.cons PLe2.boxT iB.nil))))) iB.nil)) aV))))) (bI aU)) ?_
  refine ac (aw (bm 2 tk rfl ?_))
  exact bG gz66_0 H hl11 hg11
 obtain rfl := aI H
 refine ce (st' := ⟨68,fun _=>.any,upd (upd (upd (upd (fun _=>none) 1003 (some ⟨b_c3,[(.fn 46 [(.box 1000 b_c0 0),(.box 1001 b_c1 0),(.box 1002 b_c2 0),(.box 1003 b_c3 0)])]⟩)) 1002 (some ⟨b_c2,(List.map aL s11.2.2)⟩)) 1001 (some ⟨b_c1,[(aL s11.2.1)]⟩)) 1000 (some ⟨b_c0,[(.own 1100 g11 (s11.1.map bV).length)]⟩),upd (fun _=>none) 1100 (some ⟨g11,3,(s11.1.map bV),true⟩)⟩) (Gh.le br (bC rfl (fu.of2 (iB.cons (PLe2.own rfl) iB.nil)) (bC rfl (fu.r) (bC rfl (fu.r) (bC rfl (fu.r) aV)))) (bI aU)) ?_
 refine lH rfl (PLe.q rfl) ⟨_,rfl,rfl⟩
def dk : Nat → LExpr → (List Int) → Bool → (List Bool) → Option ((List Int) × Bool × (List Bool))
 | 0,_,_,_,_=>none
 | n + 1,v0,v1,v2,v3=>gQ (fun b0 b1 b2 b3=>dk n b0 b1 b2 b3) v0 v1 v2 v3
theorem ni  (n : Nat) : (∀ bq0 gq0 bq1 bq2 bq3 a0 a1 a2 a3 r,dk n a0 a1 a2 a3 = some r → PH Tryz.prog 46 [(.agg (im a0)),(.box 1000 bq0 0),(.box 1001 bq1 0),(.box 1002 bq2 0),(.box 1003 bq3 0)] ⟨upd (upd (upd (upd (fun _=>none) 1003 (some ⟨bq3,[(.fn 46 [(.box 1000 bq0 0),(.box 1001 bq1 0),(.box 1002 bq2 0),(.box 1003 bq3 0)])]⟩)) 1002 (some ⟨bq2,(List.map aL a3)⟩)) 1001 (some ⟨bq1,[(aL a2)]⟩)) 1000 (some ⟨bq0,[(.own 1100 gq0 (a1.map bV).length)]⟩),upd (fun _=>none) 1100 (some ⟨gq0,3,(a1.map bV),true⟩)⟩ (fun u H=>∃ gz0,u = (.tup []) ∧ H = ⟨upd (upd (upd (upd (fun _=>none) 1003 (some ⟨bq3,[(.fn 46 [(.box 1000 bq0 0),(.box 1001 bq1 0),(.box 1002 bq2 0),(.box 1003 bq3 0)])]⟩)) 1002 (some ⟨bq2,(List.map aL r.2.2)⟩)) 1001 (some ⟨bq1,[(aL r.2.1)]⟩)) 1000 (some ⟨bq0,[(.own 1100 gz0 (r.1.map bV).length)]⟩),upd (fun _=>none) 1100 (some ⟨gz0,3,(r.1.map bV),true⟩)⟩)) := by
 induction n with
 | zero=>exact (by intros; rename_i h; exact absurd (show (none : Option _) = some _ from h) (by simp))
 | succ n ih =>
  exact (fun bq0 gq0 bq1 bq2 bq3 v0 v1 v2 v3 r h=>nq bq0 gq0 bq1 bq2 bq3 (fun b0 b1 b2 b3=>dk n b0 b1 b2 b3) ih v0 v1 v2 v3  r h)
def fI (e : LExpr) (c0 : List Int) (c1 : Bool) (c2 : List Bool) : Option ((List Int) × Bool × (List Bool)) := ja fun n=>dk n e c0 c1 c2
theorem kG (b_c0 : Nat) (g_c0 : OwnRef) (b_c1 : Nat) (b_c2 : Nat) (b_c3 : Nat) (e : LExpr) (c0 : List Int) (c1 : Bool) (c2 : List Bool) (r : (List Int) × Bool × (List Bool)) (H : fI e c0 c1 c2 = some r) :
  PH Tryz.prog 46 [(.agg (im e)),(.box 1000 b_c0 0),(.box 1001 b_c1 0),(.box 1002 b_c2 0),(.box 1003 b_c3 0)] ⟨upd (upd (upd (upd (fun _=>none) 1003 (some ⟨b_c3,[(.fn 46 [(.box 1000 b_c0 0),(.box 1001 b_c1 0),(.box 1002 b_c2 0),(.box 1003 b_c3 0)])]⟩)) 1002 (some ⟨b_c2,(List.map aL c2)⟩)) 1001 (some ⟨b_c1,[(aL c1)]⟩)) 1000 (some ⟨b_c0,[(.own 1100 g_c0 (c0.map bV).length)]⟩),upd (fun _=>none) 1100 (some ⟨g_c0,3,(c0.map bV),true⟩)⟩ (fun u H=>∃ gz0,u = (.tup []) ∧ H = ⟨upd (upd (upd (upd (fun _=>none) 1003 (some ⟨b_c3,[(.fn 46 [(.box 1000 b_c0 0),(.box 1001 b_c1 0),(.box 1002 b_c2 0),(.box 1003 b_c3 0)])]⟩)) 1002 (some ⟨b_c2,(List.map aL r.2.2)⟩)) 1001 (some ⟨b_c1,[(aL r.2.1)]⟩)) 1000 (some ⟨b_c0,[(.own 1100 gz0 (r.1.map bV).length)]⟩),upd (fun _=>none) 1100 (some ⟨gz0,3,(r.1.map bV),true⟩)⟩) := by
 obtain ⟨n,h⟩ := jR H
 exact (ni  n) b_c0 g_c0 b_c1 b_c2 b_c3 e c0 c1 c2 r h
def hO (sA : List Int) (v : Int) : Option (Int) :=
 ah (aM (σ := Unit) (ρ := (Int)) (fun (j1 : Nat) (x1 : Int) (_ : Unit) =>
  cond (v == x1)
   (some (.ret (j1 : Int)))
   (some (.next ()))) 0 sA ()) fun fl1=>fl1.thenR fun (_ : Unit) =>
 some (-1)
theorem oB (sA : List Int) (v : Int) (r : Int) (H : hO sA v = some r) :
  aT Tryz.prog 113 [(.list 3 (sA.map bV)),(al v)] (al r) := by
 unfold hO at H
 refine PH.ax Tryz.func113 Tryz.ntmps113 ?_
 refine av 1 tk rfl (ab (ab (aa (ak tk rfl (aG tk (zl _) ?_)))))
 refine ak tk rfl (ac ?_)
 refine fC tk 8 7 0 (fun s1 g1=>upd (fun _=>.any) 1 (al v)) nB nO () H (fun fl1 Hp1 j1 s1 g1 hz1 hl1 x1 fb1 hx1 H hg1=>?_) (fun s1 g1 H=>?_)
 ·refine ab (ap (av 2 tk rfl (ab (aa (aj 3 tk rfl ?_)))))
  refine bd tk (zn j1) (bD (fun _=>rfl) hx1) ?_
  refine aj 2 tk rfl (ac ?_)
  refine aN rfl H (fun H=>?_) (fun H=>?_)
  ·refine av 2 tk rfl ?_
   obtain rfl := aI H
   have e1 : fl1 = .ret _ := hg1
   subst e1
   obtain rfl := bi Hp1
   refine bw tk rfl (ps := [(al (j1 : Int))]) ⟨_,_,rfl,rfl,rfl⟩ (PLe.q rfl)
  refine ao (aw (bm 2 tk rfl ?_))
  exact bG () H hl1 hg1
 refine av 1 tk rfl ?_
 exact bu tk H rfl
def eA (t : LTable) (c0 : LQuery) : Bool :=
 (t.name == c0.table)
theorem pB (t : LTable) (c0 : LQuery) :
  aT Tryz.prog 96 [(.agg (cL t)),(.ptr (aK c0))] (aL (eA t c0)) := by
 obtain ⟨r,H⟩ : ∃ r,eA t c0 = r := ⟨_,rfl⟩
 rw [H]
 unfold eA at H
 refine PH.ax Tryz.func96 Tryz.ntmps96 ?_
 refine ab (aa (au ?_))
 refine ak tk rfl (ac (av 6 tk rfl ?_))
 exact el tk H rfl
def cO (sA : List LTable) (f : LTable → Option (Bool)) : Option (Int) :=
 ah (aM (σ := Unit) (ρ := (Int)) (fun (j1 : Nat) (x1 : LTable) (_ : Unit) =>
  ah (f x1) fun x16 =>
  cond x16
   (some (.ret (j1 : Int)))
   (some (.next ()))) 0 sA ()) fun fl1=>fl1.thenR fun (_ : Unit) =>
 some (-1)
theorem gY {g_f : FuncId} {caps_f : List PV} (sA : List LTable) (f : LTable → Option (Bool)) (hg_f : ∀ (vs : Array Value) (w : World),(callFunc g_f vs).run Tryz.prog w = .ok (.enter g_f vs) w) (hp_f : ∀ a0 r,f a0 = some r → aT Tryz.prog g_f ((.agg (cL a0)) :: caps_f) (aL r)) (r : Int) (H : cO sA f = some r) :
  aT Tryz.prog 91 [(.list 52 (sA.map cL)),(.fn g_f caps_f)] (al r) := by
 unfold cO at H
 refine PH.ax Tryz.func91 Tryz.ntmps91 ?_
 refine av 1 tk rfl (ab (ab (aa (ak tk rfl (aG tk (zl _) ?_)))))
 refine ak tk rfl (ac ?_)
 refine fC tk 8 7 0 (fun s1 g1=>upd (fun _=>.any) 1 (.fn g_f caps_f)) nB nO () H (fun fl1 Hp1 j1 s1 g1 hz1 hl1 x1 fb1 hx1 H hg1=>?_) (fun s1 g1 H=>?_)
 ·refine ab (ap (av 2 tk rfl (ab (aa (aj 3 tk rfl ?_)))))
  refine bd tk (zn j1) (bD (fun _=>rfl) hx1) ?_
  refine ak tk rfl ?_
  obtain ⟨x16,h16,H⟩ := aE H
  refine ae hg_f (fu.r) (hp_f _ _ h16) ?_
  refine ac ?_
  refine aN rfl H (fun H=>?_) (fun H=>?_)
  ·refine av 2 tk rfl ?_
   obtain rfl := aI H
   have e1 : fl1 = .ret _ := hg1
   subst e1
   obtain rfl := bi Hp1
   refine bw tk rfl (ps := [(al (j1 : Int))]) ⟨_,_,rfl,rfl,rfl⟩ (PLe.q rfl)
  refine ao (aw (bm 2 tk rfl ?_))
  exact bG () H hl1 hg1
 refine av 1 tk rfl ?_
 exact bu tk H rfl
theorem ql {m : Nat} (xs : List LCol) : fE Tryz.prog 77 [.list 49 (xs.map aW)] (kW m 49 (xs.map aW)) := by
 refine PH.ax Tryz.func77 Tryz.ntmps77 ?_
 refine eV tk 0 rfl rfl (fun hz hb=>?_)
 refine av 1 tk rfl (ab (ab (aa (ak tk rfl ?_))))
 refine nK tk rfl rfl rfl rfl rfl rfl rfl (fun b hn=>?_)
 refine ac ?_
 refine aQ rfl (fun h=>?_) (fun h=>?_)
 ·refine av 1 tk rfl (hX tk 2 902 (e := 49) rfl rfl ?_)
  refine iA tk (hn h).symm
 ·refine ao (ab (aa ?_))
  refine mu (rows' := []) tk rfl rfl rfl rfl rfl rfl rfl rfl rfl (iB.refl _) fun g=>?_
  refine ak tk rfl ?_
  refine cy (rows2' := xs.map aW) (rows' := xs.map aW) tk rfl rfl rfl rfl rfl rfl rfl rfl rfl rfl rfl rfl rfl (je.refl _) (by simpa using hb) (by simpa using hz) rfl fun g'=>?_
  refine ak tk rfl (ac ?_)
  refine iA tk rfl
end
end Go.Proofs.YtlddibnpcmlobaaGreat
