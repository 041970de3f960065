/- joinMatchesQuerySemanticsUpto_holds, part 6: the layer, the plain functions and what they compute; conditions as in the statement. -/
import Derived.Test.YtifhafpljncplaaGreatDoorJqe
set_option maxHeartbeats 4000000
namespace Go.Proofs.YtifhafpljncplaaGreatDoor
noncomputable section
open Go Go.Ab
attribute [local irreducible] V Ao Do Gh Eff PH IntKind.wrap
set_option maxRecDepth 4000
def lX (sA : LSchema) (q : LQuery) : Option ((List LCol) × Int) :=
 af (gd sA ([] : List LCol) q) fun x8 =>
 some (x8.1,x8.2)
theorem W_query_Check (sA : LSchema) (q : LQuery) (r : (List LCol) × Int) (H : lX sA q = some r) :
  aI Tryz.prog 44 [(.agg (bW sA)),(.agg (aG q))] (.tup [(.list 51 (r.1.map aN)),(am r.2)]) := by
 unfold lX at H
 refine PH.au Tryz.func44 Tryz.ntmps44 ?_
 refine ab (aa (aD ?_))
 refine aD ?_
 refine ag 2 tk rfl (ac (ab (aa (ag 2 tk rfl ?_))))
 obtain ⟨x8,h8,H⟩ := ax H
 have s8 := nh sA ([] : List LCol) q _ h8
 refine ak Tryz.call67 (jx.of2 (iK.cons (oG.of_eq rfl) (iK.cons (oG.nil tk rfl) (iK.cons (oG.of_eq rfl) iK.nil)))) s8 ?_
 refine ag 4 tk rfl (ac ?_)
 exact aW tk H rfl
def kw (rec68 : LRun → LQuery → Option (Rz)) (rec111 : LRun → LQuery → Option (Rz)) (rA : LRun) (q : LQuery) : Option (Rz) :=
 cond (q.kind == (1 : Int))
  (af (aE (σ := Unit) (ρ := (Rz)) (fun (_ : Nat) (x1 : LRelation) (_ : Unit) =>
   cond (x1.table == q.table)
    (some (.ret x1.rows))
    (some (.next ()))) 0 rA.st ()) fun fl1=>fl1.thenR fun (_ : Unit) =>
  some [])
  (bp (
   cond (q.kind == (4 : Int))
    ((q.kind == (4 : Int)))
    ((q.kind == (5 : Int)))) fun (t2 : Bool) =>
  cond t2
   (af (rec111 rA q) fun x37 =>
   some x37)
   (cond (q.kind == (6 : Int))
    (af (aJ q.inputs 0) fun (x43 : LQuery) =>
    af (aJ q.inputs 1) fun (x50 : LQuery) =>
    af (rec68 rA x43) fun x45 =>
    af (rec68 rA x50) fun x52 =>
    af (dh 24 x45 x52) fun (x53 : Rz) =>
    some x53)
    (cond (q.kind == (7 : Int))
     (af (aJ q.inputs 0) fun (x59 : LQuery) =>
     af (aJ q.inputs 1) fun (x65 : LQuery) =>
     af (rec68 rA x59) fun x61 =>
     af (rec68 rA x65) fun x67 =>
     af (ln x61 x67) fun x68 =>
     some x68)
     (af (aJ q.inputs 0) fun (x72 : LQuery) =>
     af (rec68 rA x72) fun x74 =>
     af (aJ q.inputs 0) fun (x78 : LQuery) =>
     af (gC rA x78) fun x80 =>
     cond (q.kind == (2 : Int))
      (af (cT x74 (fun a0=>iB a0 rA x80 q)) fun x88 =>
      some x88)
      (cond (q.kind == (3 : Int))
       (af (aE (σ := Rz) (ρ := Empty) (fun (_ : Nat) (x3 : Rq) (s3 : Rz) =>
        af (dq rA x80 x3 q.exprs) fun x103 =>
        af (dh 24 s3 ([x103] : Rz)) fun (x105 : Rz) =>
        some (.next x105)) 0 x74 []) fun fl3=>fl3.thenP fun (s3 : Rz) =>
       some s3)
       (cond (q.kind == (8 : Int))
        (af (iU rA q x80 x74) fun x114 =>
        some x114)
        (cond (q.kind == (9 : Int))
         (af (fM rA q x80 x74) fun x121 =>
         some x121)
         (af (oH x74 (if (x74.length : Int) < q.offset then (x74.length : Int) else q.offset) (IntKind.i64.wrap ((if (x74.length : Int) < q.offset then (x74.length : Int) else q.offset) + (if (IntKind.i64.wrap ((x74.length : Int) - (if (x74.length : Int) < q.offset then (x74.length : Int) else q.offset))) < q.count then (IntKind.i64.wrap ((x74.length : Int) - (if (x74.length : Int) < q.offset then (x74.length : Int) else q.offset))) else q.count)))) fun (x138 : Rz) =>
         some x138))))))))
theorem tJ (rec68 : LRun → LQuery → Option (Rz)) (rec111 : LRun → LQuery → Option (Rz)) (hrec68 : ∀ a0 a1 r,rec68 a0 a1 = some r → aI Tryz.prog 68 [(.agg (dE a0)),(.agg (aG a1))] (.list 61 (r.map (al 39 ae)))) (hrec111 : ∀ a0 a1 r,rec111 a0 a1 = some r → aI Tryz.prog 111 [(.agg (dE a0)),(.agg (aG a1))] (.list 61 (r.map (al 39 ae)))) (rA : LRun) (q : LQuery) (r : Rz) (H : kw rec68 rec111 rA q = some r) :
  aI Tryz.prog 68 [(.agg (dE rA)),(.agg (aG q))] (.list 61 (r.map (al 39 ae))) := by
 unfold kw at H
 refine PH.au Tryz.func68 Tryz.ntmps68 ?_
 refine ab (aa (aD ?_))
 refine aD ?_
 refine ah tk rfl (ac (ab (ao 2 tk rfl (av (ao 2 tk rfl ?_)))))
 refine aH rfl H (fun H=>?_) (fun H=>?_)
 ·refine ab (ab (aa (ag 2 tk rfl (az tk (zl _) ?_))))
  refine ah tk rfl (ac ?_)
  refine fm tk 20 19 18 (fun s1 g1=>upd (fun _=>.any) 3 (.ptr (aG q))) nB nO () H (fun fl1 Hp1 j1 s1 g1 hz1 hl1 x1 fb1 hx1 H hg1=>?_) (fun s1 g1 H=>?_)
  ·refine ab (av (ab (aa ?_)))
   refine aQ tk (zn j1) (bj (fun _=>rfl) hx1) ?_
   refine ah tk rfl ?_
   refine ba tk fun b6=>?_
   refine aq tk ?_
   refine ac (ab (aa (ah tk rfl (aB tk ?_))))
   refine ag 3 tk rfl (ac ?_)
   refine aH rfl H (fun H=>?_) (fun H=>?_)
   ·refine ab (aa (ah tk rfl (aB tk ?_)))
    refine ah tk rfl (ac ?_)
    obtain rfl := aA H
    have e1 : fl1 = .ret _ := hg1
    subst e1
    obtain rfl := aT Hp1
    refine bc tk rfl (ps := [(.list 61 (x1.rows.map (al 39 ae)))]) ⟨_,_,rfl,rfl,rfl⟩ (PLe.q rfl)
   refine ap (aF (aX 2 tk rfl ?_))
   exact bi () H hl1 hg1
  refine ao 1 tk rfl ?_
  obtain rfl := aA H
  refine bc tk rfl (ps := [(.val (.slice none 0 0))]) ⟨_,_,rfl,rfl,rfl⟩ (PLe.of2 (oG.nil tk rfl))
 refine ab (ao 2 tk rfl ?_)
 refine eQ (γ := Unit) (fun t2 g2=>⟨139,upd (upd (upd (upd (fun _=>.any) 32 (aC t2)) 14 (am q.kind)) 3 (.ptr (aG q))) 2 (.ptr (dE rA)),fun _=>none,fun _=>none⟩) H (fun _ H=>?_) (fun t2 g2 H=>?_)
 ·refine aH rfl H (fun H=>?_) (fun H=>?_)
  ·refine ap ?_
   refine aR _ () H Gh.d
  refine aX 2 tk rfl ?_
  refine aR _ () H Gh.d
 refine aH rfl H (fun H=>?_) (fun H=>?_)
 ·refine ab (aa (ag 2 tk rfl ?_))
  obtain ⟨x37,h37,H⟩ := ax H
  have s37 := hrec111 rA q _ h37
  refine ak Tryz.call111 (jx.r) s37 ?_
  refine ah tk rfl (ac ?_)
  exact aW tk H rfl
 refine ao 2 tk rfl ?_
 refine aH rfl H (fun H=>?_) (fun H=>?_)
 ·refine ab (bw tk mok ⟨false,false,[]⟩ [0,1,2,3,4,7,8,9,10,11,5,6,12,13,14] rfl (by decide +kernel) rfl (aU 3 rfl ?_))
  obtain ⟨x43,k43,H⟩ := bt H
  refine bJ k43.1 (aO bQ k43.2) ?_
  refine aU 4 rfl ?_
  obtain ⟨x50,k50,H⟩ := bt H
  refine bJ k50.1 (aO bQ k50.2) ?_
  refine bT rfl ?_
  obtain ⟨x45,h45,H⟩ := ax H
  have s45 := hrec68 rA x43 _ h45
  refine aV Tryz.call68 (jx.r) s45 ?_
  have s46 := rc (m := 46) x45
  refine uS (g := 33) rfl rfl rfl rfl Tryz.call33 (jx.r) rfl rfl s46 (fun g46=>?_)
  obtain ⟨x52,h52,H⟩ := ax H
  have s52 := hrec68 rA x50 _ h52
  refine aV Tryz.call68 (jx.r) s52 ?_
  obtain ⟨x53,h53,H⟩ := ax H
  have k53 := cj h53
  refine mM (rows2' := List.map (al 39 ae) x52) (rows' := List.map (al 39 ae) x53) tk rfl rfl rfl rfl rfl rfl rfl rfl rfl rfl rfl rfl rfl rfl (fU.refl _) (dC k53.1) (dy k53.2.1) (dB k53.2.2) fun g53=>?_
  refine bT rfl (br (dP 4 rfl rfl rfl ?_))
  exact aW tk H rfl
 refine ao 2 tk rfl ?_
 refine aH rfl H (fun H=>?_) (fun H=>?_)
 ·refine ab (bw tk mok ⟨false,false,[]⟩ [0,1,2,3,4,6,7,8,9,10,5,11,12,13] rfl (by decide +kernel) rfl (aU 3 rfl ?_))
  obtain ⟨x59,k59,H⟩ := bt H
  refine bJ k59.1 (aO bQ k59.2) ?_
  refine aU 4 rfl ?_
  obtain ⟨x65,k65,H⟩ := bt H
  refine bJ k65.1 (aO bQ k65.2) ?_
  refine bT rfl ?_
  obtain ⟨x61,h61,H⟩ := ax H
  have s61 := hrec68 rA x59 _ h61
  refine aV Tryz.call68 (jx.r) s61 ?_
  obtain ⟨x67,h67,H⟩ := ax H
  have s67 := hrec68 rA x65 _ h67
  refine aV Tryz.call68 (jx.r) s67 ?_
  obtain ⟨x68,h68,H⟩ := ax H
  have s68 := W_query_less x61 x67 _ h68
  refine aV Tryz.call112 (jx.r) s68 ?_
  refine bT rfl (br ?_)
  exact aW tk H rfl
 refine ap (aF (ab (bw tk mok ⟨false,false,[]⟩ [0,1,2,3,4,5,6] rfl (by decide +kernel) rfl (aU 3 rfl ?_))))
 obtain ⟨x72,k72,H⟩ := bt H
 refine bJ k72.1 (aO bQ k72.2) ?_
 refine bT rfl ?_
 obtain ⟨x74,h74,H⟩ := ax H
 have s74 := hrec68 rA x72 _ h74
 refine aV Tryz.call68 (jx.r) s74 ?_
 refine bT rfl (br (ab (bw tk mok ⟨false,false,[]⟩ [0,1,2,3,4,5,6,7] rfl (by decide +kernel) rfl (aU 3 rfl ?_))))
 obtain ⟨x78,k78,H⟩ := bt H
 refine bJ k78.1 (aO bQ k78.2) ?_
 refine bT rfl ?_
 obtain ⟨x80,h80,H⟩ := ax H
 have s80 := mh rA x78 _ h80
 refine aV Tryz.call113 (jx.r) s80 ?_
 refine rQ rfl rfl rfl rfl rfl rfl rfl rfl fun b8=>?_
 refine ff ?_
 refine br (ab (ao 2 tk rfl (av (ao 2 tk rfl ?_))))
 refine aH rfl H (fun H=>?_) (fun H=>?_)
 ·refine ab (aa (ah tk rfl ?_))
  have s86 := rc (m := 86) x74
  refine ml (g := 33) rfl rfl rfl Tryz.call33 (jx.r) rfl rfl s86 (fun g86=>?_)
  refine cV (Gh.freezeB 8 rfl rfl rfl rfl) (ah tk rfl ?_)
  obtain ⟨x88,h88,H⟩ := ax H
  have s88 := li g86 x74 (fun a0=>iB a0 rA x80 q) Tryz.call115 (fun a0 r h=>sK a0 rA x80 q r h) _ h88
  refine eF (g := 114) rfl rfl rfl Tryz.call114 [] [(86,0)] rfl rfl rfl rfl (jx.of2 (iK.cons (oG.own rfl) (iK.cons (oG.of_eq rfl) iK.nil))) (by rw [dR,cY,dN]; rfl) s88 ?_
  rintro u88 H88h ⟨rfl,rfl⟩
  refine ⟨_,rfl,?_⟩
  refine cV (st' := ⟨_,_,fun _=>none,upd (fun _=>none) 86 (some ⟨g86,61,(x88.map (al 39 ae)),true⟩)⟩) (Gh.le (cw _ _) aM (bu aL)) ?_
  refine mt 88 (q := (.own 86 g86 (x88.map (al 39 ae)).length)) rfl (PLe.of2 (oG.own rfl)) (ah tk rfl (ac (dP 4 rfl rfl rfl ?_)))
  exact aW tk H rfl
 refine ao 2 tk rfl ?_
 refine aH rfl H (fun H=>?_) (fun H=>?_)
 ·refine ao 1 tk rfl (ab (ab (aa (ah tk rfl (az tk (zl _) ?_)))))
  refine ah tk rfl (ac ?_)
  obtain ⟨fl3,H3,Hp3⟩ := ax H
  refine gm tk 91 rfl rfl (fun hz3 _=>?_)
  rw [zl] at hz3
  refine fj (τ := Rz) (γ := OwnRef) (fun s3 g3=>⟨139,upd (upd (upd (fun _=>.any) 9 (.own 105 g3 (s3.map (al 39 ae)).length)) 3 (.ptr (aG q))) 2 (.ptr (dE rA)),fun _=>none,upd (fun _=>none) 105 (some ⟨g3,61,(s3.map (al 39 ae)),true⟩)⟩) (fun t=>fl3 = .next t) ?_ (fun s3 g3 hn3=>?_)
  ·refine av (iA tk 9 105 (e := 61) rfl rfl ?_)
   refine hJ (fun j3 s3 g3=>⟨139,upd (upd (upd (upd (upd (upd (upd (fun _=>.any) 93 (am (j3 : Int))) 92 (am (x74.length : Int))) 91 (.list 61 (x74.map (al 39 ae)))) 9 (.own 105 g3 (s3.map (al 39 ae)).length)) 8 (.box 8 b8 0)) 3 (.ptr (aG q))) 2 (.ptr (dE rA)),upd (fun _=>none) 8 (some ⟨b8,[(.list 51 (x80.map aN))]⟩),upd (fun _=>none) 105 (some ⟨g3,61,(s3.map (al 39 ae)),true⟩)⟩) (⟨none,0⟩) H3 Gh.d (fun j3 s3 g3 hj3 hr3=>?_)
   refine ao 1 tk rfl (ab ?_)
   refine bg rfl (fun h=>?_) (fun h=>?_)
   ·have hl3 := mZ h
    obtain ⟨x3,fb3,hx3,H,hg3⟩ := rMc hl3 hr3
    refine ap (ab (av (ab (aa ?_))))
    refine aQ tk (zn j3) (bj (fun _=>rfl) hx3) ?_
    refine ag 2 tk rfl (ac (aa (ag 2 tk rfl (aB tk ?_))))
    refine ag 3 tk rfl ?_
    obtain ⟨x103,h103,H⟩ := ax H
    have s103 := jW rA x80 x3 q.exprs _ h103
    refine ak Tryz.call119 (jx.r) s103 ?_
    refine bU tk (rows' := List.map (al 39 ae) ([x103] : Rz)) (fU.refl _) ?_
    obtain ⟨x105,h105,H⟩ := ax H
    have k105 := cj h105
    refine cf (rows2' := List.map (al 39 ae) ([x103] : Rz)) (rows' := List.map (al 39 ae) x105) tk rfl rfl rfl rfl rfl rfl rfl rfl rfl rfl rfl rfl rfl (fU.refl _) (dC k105.1) (dy k105.2.1) (dB k105.2.2) fun g105=>?_
    refine ah tk rfl (ac (aF (aX 2 tk rfl ?_)))
    exact bi g105 H hl3 hg3
   have hn3 := rMd (mS h) hr3
   refine bh rfl ?_
   refine aR s3 g3 hn3 Gh.d
  have H := cP hn3 Hp3
  refine ao 2 tk rfl (dP 4 rfl rfl rfl ?_)
  exact aW tk H rfl
 refine ao 2 tk rfl ?_
 refine aH rfl H (fun H=>?_) (fun H=>?_)
 ·refine ab (aa (ag 2 tk rfl (aB tk ?_)))
  refine ah tk rfl ?_
  obtain ⟨x114,h114,H⟩ := ax H
  have s114 := tK rA q x80 x74 _ h114
  refine ak Tryz.call120 (jx.r) s114 ?_
  refine ah tk rfl (ac ?_)
  exact aW tk H rfl
 refine ao 2 tk rfl ?_
 refine aH rfl H (fun H=>?_) (fun H=>?_)
 ·refine ab (aa (ag 2 tk rfl (aB tk ?_)))
  refine ah tk rfl ?_
  obtain ⟨x121,h121,H⟩ := ax H
  have s121 := uk rA q x80 x74 _ h121
  refine ak Tryz.call121 (jx.r) s121 ?_
  refine ah tk rfl (ac ?_)
  exact aW tk H rfl
 refine ap (aF (ab (aa (ag 3 tk rfl (az tk (zl _) ?_)))))
 refine ag 2 tk rfl (ac (ab (aa (ag 6 tk rfl (az tk (zl _) ?_)))))
 refine ag 4 tk rfl ?_
 obtain ⟨x138,h138,H⟩ := ax H
 have k138 := qd h138
 refine uK tk rfl rfl rfl rfl rfl (zl _) rfl rfl k138.1 (rm k138.2) rfl (ah tk rfl (ac ?_))
 exact aW tk H rfl
def ju (rec68 : LRun → LQuery → Option (Rz)) (_rec111 : LRun → LQuery → Option (Rz)) (rA : LRun) (q : LQuery) : Option (Rz) :=
 af (aJ q.inputs 0) fun (x19 : LQuery) =>
 af (aJ q.inputs 1) fun (x25 : LQuery) =>
 af (rec68 rA x19) fun x21 =>
 af (rec68 rA x25) fun x27 =>
 af (aJ q.inputs 1) fun (x31 : LQuery) =>
 af (gC rA x31) fun x33 =>
 af (aJ q.inputs 0) fun (x37 : LQuery) =>
 af (gC rA x37) fun x39 =>
 af (dh 32 x39 x33) fun (x42 : List LCol) =>
 af (aE (σ := List LCol × Rz) (ρ := Empty) (fun (_ : Nat) (x1 : Rq) (s1 : List LCol × Rz) =>
  af (aE (σ := Rz × Bool) (ρ := Empty) (fun (_ : Nat) (x6 : Rq) (s6 : Rz × Bool) =>
   af (bl ([x1,x6] : Rz)) fun x58 =>
   af (aJ q.exprs 0) fun (x65 : LExpr) =>
   bp (aS rA s1.1 x58) fun x62 =>
   bp (bR x62 x65) fun x67 =>
   bp (ir x67) fun x68 =>
   cond x68
    (af (dh 24 s6.1 ([x58] : Rz)) fun (x72 : Rz) =>
    some (.next (x72,true)))
    (some (.next (s6.1,s6.2)))) 0 x27 (s1.2,false)) fun fl6=>fl6.thenP fun (s6 : Rz × Bool) =>
  bp (
   cond (!s6.2)
    ((q.kind == (5 : Int)))
    (false)) fun (t7 : Bool) =>
  cond t7
   (af (pj 32 (x33.length : Int)) fun (_ : Unit) =>
   af (bl ([x1,(List.replicate (x33.length : Int).toNat (LVal.mk 0 0 []))] : Rz)) fun x87 =>
   af (dh 24 s6.1 ([x87] : Rz)) fun (x89 : Rz) =>
   some (.next (s1.1,x89)))
   (some (.next (s1.1,s6.1)))) 0 x21 (x42,[])) fun fl1=>fl1.thenP fun (s1 : List LCol × Rz) =>
 some s1.2
theorem tE (rec68 : LRun → LQuery → Option (Rz)) (rec111 : LRun → LQuery → Option (Rz)) (hrec68 : ∀ a0 a1 r,rec68 a0 a1 = some r → aI Tryz.prog 68 [(.agg (dE a0)),(.agg (aG a1))] (.list 61 (r.map (al 39 ae)))) (_hrec111 : ∀ a0 a1 r,rec111 a0 a1 = some r → aI Tryz.prog 111 [(.agg (dE a0)),(.agg (aG a1))] (.list 61 (r.map (al 39 ae)))) (rA : LRun) (q : LQuery) (r : Rz) (H : ju rec68 rec111 rA q = some r) :
  aI Tryz.prog 111 [(.agg (dE rA)),(.agg (aG q))] (.list 61 (r.map (al 39 ae))) := by
 unfold ju at H
 refine PH.au Tryz.func111 Tryz.ntmps111 ?_
 refine ab (aa (aD ?_))
 refine aD ?_
 refine ah tk rfl (ac (ab (bw tk mok ⟨false,false,[]⟩ [0,1,2,3,4,6,7,8,9,10,5,11,12,13] rfl (by decide +kernel) rfl (aU 3 rfl ?_))))
 obtain ⟨x19,k19,H⟩ := bt H
 refine bJ k19.1 (aO bQ k19.2) ?_
 refine aU 4 rfl ?_
 obtain ⟨x25,k25,H⟩ := bt H
 refine bJ k25.1 (aO bQ k25.2) ?_
 refine bT rfl ?_
 obtain ⟨x21,h21,H⟩ := ax H
 have s21 := hrec68 rA x19 _ h21
 refine aV Tryz.call68 (jx.r) s21 ?_
 obtain ⟨x27,h27,H⟩ := ax H
 have s27 := hrec68 rA x25 _ h27
 refine aV Tryz.call68 (jx.r) s27 ?_
 refine aU 2 rfl (br (ab (bw tk mok ⟨false,false,[]⟩ [0,1,2,3,4,5,6] rfl (by decide +kernel) rfl (aU 3 rfl ?_))))
 obtain ⟨x31,k31,H⟩ := bt H
 refine bJ k31.1 (aO bQ k31.2) ?_
 refine bT rfl ?_
 obtain ⟨x33,h33,H⟩ := ax H
 have s33 := mh rA x31 _ h33
 refine aV Tryz.call113 (jx.r) s33 ?_
 refine bT rfl (br (ab (bw tk mok ⟨false,false,[]⟩ [0,1,2,3,4,7,5,6,8,9] rfl (by decide +kernel) rfl (aU 3 rfl ?_))))
 obtain ⟨x37,k37,H⟩ := bt H
 refine bJ k37.1 (aO bQ k37.2) ?_
 refine aU 2 rfl ?_
 obtain ⟨x39,h39,H⟩ := ax H
 have s39 := mh rA x37 _ h39
 refine aV Tryz.call113 (jx.r) s39 ?_
 have s40 := qo (m := 40) x39
 refine uS (g := 156) rfl rfl rfl rfl Tryz.call156 (jx.r) rfl rfl s40 (fun g40=>?_)
 obtain ⟨x42,h42,H⟩ := ax H
 have k42 := cj h42
 refine mM (rows2' := List.map aN x33) (rows' := List.map aN x42) tk rfl rfl rfl rfl rfl rfl rfl rfl rfl rfl rfl rfl rfl rfl (fU.refl _) (dC k42.1) (dy k42.2.1) (dB k42.2.2) fun g42=>?_
 refine bT rfl (br (ao 1 tk rfl (ab (ab (aa (ah tk rfl (az tk (zl _) ?_)))))))
 refine ah tk rfl (ac (dP 8 rfl rfl rfl (iA tk 9 72 (e := 61) rfl rfl ?_)))
 refine uT (γ := OwnRef) tk 43 rfl rfl (fun s1 g1=>upd (upd (upd (upd (upd (fun _=>.any) 9 (.own 72 g1 (s1.2.map (al 39 ae)).length)) 7 (.list 51 (x33.map aN))) 6 (.list 61 (x27.map (al 39 ae)))) 3 (.ptr (aG q))) 2 (.ptr (dE rA))) nB (fun s1 g1=>upd (fun _=>none) 72 (some ⟨g1,61,(s1.2.map (al 39 ae)),true⟩)) (fun e j1 s1 g1=>upd (upd (upd (upd e 45 (am (j1 : Int))) 44 (am (x21.length : Int))) 43 (.list 61 (x21.map (al 39 ae)))) 8 (.list 51 (s1.1.map aN))) (⟨none,0⟩) H rfl Gh.d (fun _ _ _=>rfl) (fun _ _ _=>rfl) (fun _ _ _=>Gh.d) (fun fl1 Hp1 j1 s1 g1 hz1 hl1 x1 fb1 hx1 H hg1=>?_) (fun s1 g1 H=>?_)
 ·refine ab (av (ab (aa ?_)))
  refine aQ tk (zn j1) (bj (fun _=>rfl) hx1) ?_
  refine ag 2 tk rfl (ac (ao 1 tk rfl (ab (ab (aa (ah tk rfl (az tk (zl _) ?_)))))))
  refine ah tk rfl (ac ?_)
  refine gQ (γ := OwnRef) tk 51 50 49 (fun s6 g6=>upd (upd (upd (upd (upd (upd (upd (upd (upd (upd (upd (fun _=>.any) 45 (am (j1 : Int))) 44 (am (x21.length : Int))) 43 (.list 61 (x21.map (al 39 ae)))) 12 (aC s6.2)) 11 (.list 39 (x1.map ae))) 9 (.own 72 g6 (s6.1.map (al 39 ae)).length)) 8 (.list 51 (s1.1.map aN))) 7 (.list 51 (x33.map aN))) 6 (.list 61 (x27.map (al 39 ae)))) 3 (.ptr (aG q))) 2 (.ptr (dE rA))) nB (fun s6 g6=>upd (fun _=>none) 72 (some ⟨g6,61,(s6.1.map (al 39 ae)),true⟩)) g1 H (fun fl6 Hp6 j6 s6 g6 hz6 hl6 x6 fb6 hx6 H hg6=>?_) (fun s6 g6 H=>?_)
  ·refine ab (av (ab (aa ?_)))
   refine aQ tk (zn j6) (bj (fun _=>rfl) hx6) ?_
   refine ag 2 tk rfl (ac (ab (aa (ag 2 tk rfl (bU tk (rows' := List.map (al 39 ae) ([x1,x6] : Rz)) (fU.refl _) ?_)))))
   obtain ⟨x58,h58,H⟩ := ax H
   have s58 := eK (m := 58) ([x1,x6] : Rz) _ h58
   refine ak Tryz.call54 (jx.r) (PFun.iy s58) ?_
   refine ah tk rfl (ac (ab (bw tk mok ⟨false,false,[]⟩ [0,1,2,4,5,6,7,3,8,9] rfl (by decide +kernel) rfl (aU 5 rfl ?_))))
   obtain ⟨x65,k65,H⟩ := bt H
   refine bJ k65.1 (aO dK k65.2) ?_
   refine bT rfl ?_
   obtain ⟨x62,h62,H⟩ := cL H
   have s62 := kR rA s1.1 x58
   rw [h62] at s62
   refine aV Tryz.call118 (jx.r) s62 ?_
   obtain ⟨x67,h67,H⟩ := cL H
   have s67 := oA x62 x65
   rw [h67] at s67
   refine aV Tryz.call117 (jx.r) s67 ?_
   obtain ⟨x68,h68,H⟩ := cL H
   have s68 := isTS x67
   rw [h68] at s68
   refine aV Tryz.call116 (jx.r) s68 ?_
   refine br ?_
   refine aH rfl H (fun H=>?_) (fun H=>?_)
   ·refine ab (aa (ag 2 tk rfl (bU tk (rows' := List.map (al 39 ae) ([x58] : Rz)) (fU.refl _) ?_)))
    obtain ⟨x72,h72,H⟩ := ax H
    have k72 := cj h72
    refine cf (rows2' := List.map (al 39 ae) ([x58] : Rz)) (rows' := List.map (al 39 ae) x72) tk rfl rfl rfl rfl rfl rfl rfl rfl rfl rfl rfl rfl rfl (fU.refl _) (dC k72.1) (dy k72.2.1) (dB k72.2.2) fun g72=>?_
    refine ah tk rfl (ac (aX 1 tk rfl (aF (aX 2 tk rfl ?_))))
    exact bi g72 H hl6 hg6
   refine ap (aF (aX 2 tk rfl ?_))
   exact bi g6 H hl6 hg6
  refine ab ?_
  refine eQ (γ := Unit) (fun t7 g7=>⟨92,upd (upd (upd (upd (upd (upd (upd (upd (upd (upd (upd (fun _=>.any) 80 (aC t7)) 45 (am (j1 : Int))) 44 (am (x21.length : Int))) 43 (.list 61 (x21.map (al 39 ae)))) 11 (.list 39 (x1.map ae))) 9 (.own 72 g6 (s6.1.map (al 39 ae)).length)) 8 (.list 51 (s1.1.map aN))) 7 (.list 51 (x33.map aN))) 6 (.list 61 (x27.map (al 39 ae)))) 3 (.ptr (aG q))) 2 (.ptr (dE rA)),fun _=>none,upd (fun _=>none) 72 (some ⟨g6,61,(s6.1.map (al 39 ae)),true⟩)⟩) H (fun _ H=>?_) (fun t7 g7 H=>?_)
  ·refine aa (ag 3 tk rfl ?_)
   refine bf rfl rfl rfl H (fun H=>?_) (fun H=>?_)
   ·refine ag 4 tk rfl (ac ?_)
    refine aR _ () H Gh.d
   refine ag 4 tk rfl (ac ?_)
   refine aR _ () H Gh.d
  refine aH rfl H (fun H=>?_) (fun H=>?_)
  ·refine aa (ag 3 tk rfl (az tk (zl _) ?_))
   obtain ⟨_,h85,H⟩ := ax H
   have k85 := qZ h85
   refine uV (rows := List.map ae (List.replicate (x33.length : Int).toNat (LVal.mk 0 0 []))) tk rfl rfl rfl rfl rfl rfl rfl rfl rfl rfl k85.1 k85.2.1 k85.2.2 (by rw [List.map_replicate]; rfl) fun g85=>?_
   refine cV (Gh.freezeO 85 rfl rfl rfl) (bU tk (rows' := List.map (al 39 ae) ([x1,(List.replicate (x33.length : Int).toNat (LVal.mk 0 0 []))] : Rz)) (fU.refl _) ?_)
   obtain ⟨x87,h87,H⟩ := ax H
   have s87 := eK (m := 87) ([x1,(List.replicate (x33.length : Int).toNat (LVal.mk 0 0 []))] : Rz) _ h87
   refine ak Tryz.call54 (jx.r) (PFun.iy s87) ?_
   refine bU tk (rows' := List.map (al 39 ae) ([x87] : Rz)) (fU.refl _) ?_
   obtain ⟨x89,h89,H⟩ := ax H
   have k89 := cj h89
   refine cf (rows2' := List.map (al 39 ae) ([x87] : Rz)) (rows' := List.map (al 39 ae) x89) tk rfl rfl rfl rfl rfl rfl rfl rfl rfl rfl rfl rfl rfl (fU.refl _) (dC k89.1) (dy k89.2.1) (dB k89.2.2) fun g89=>?_
   refine ah tk rfl (ac (aF (aX 2 tk rfl ?_)))
   exact bi g89 H hl1 hg1
  refine ap (aF (aX 2 tk rfl ?_))
  exact bi g6 H hl1 hg1
 refine ao 2 tk rfl (dP 4 rfl rfl rfl ?_)
 exact aW tk H rfl
mutual
def eW : Nat → LRun → LQuery → Option (Rz)
 | 0,_,_=>none
 | n + 1,v0,v1=>kw (fun b0 b1=>eW n b0 b1) (fun b0 b1=>gB n b0 b1) v0 v1
def gB : Nat → LRun → LQuery → Option (Rz)
 | 0,_,_=>none
 | n + 1,v0,v1=>ju (fun b0 b1=>eW n b0 b1) (fun b0 b1=>gB n b0 b1) v0 v1
end
theorem tM  (n : Nat) : (∀ a0 a1 r,eW n a0 a1 = some r → aI Tryz.prog 68 [(.agg (dE a0)),(.agg (aG a1))] (.list 61 (r.map (al 39 ae)))) ∧ (∀ a0 a1 r,gB n a0 a1 = some r → aI Tryz.prog 111 [(.agg (dE a0)),(.agg (aG a1))] (.list 61 (r.map (al 39 ae)))) := by
 induction n with
 | zero=>exact ⟨(by intros; rename_i h; exact absurd (show (none : Option _) = some _ from h) (by simp)),(by intros; rename_i h; exact absurd (show (none : Option _) = some _ from h) (by simp))⟩
 | succ n ih =>
  exact ⟨(fun v0 v1 r h=>tJ (fun b0 b1=>eW n b0 b1) (fun b0 b1=>gB n b0 b1) ih.1 ih.2 v0 v1  r h),(fun v0 v1 r h=>tE (fun b0 b1=>eW n b0 b1) (fun b0 b1=>gB n b0 b1) ih.1 ih.2 v0 v1  r h)⟩
def lY (rA : LRun) (q : LQuery) : Option (Rz) := jo fun n=>eW n rA q
theorem uv (rA : LRun) (q : LQuery) (r : Rz) (H : lY rA q = some r) :
  aI Tryz.prog 68 [(.agg (dE rA)),(.agg (aG q))] (.list 61 (r.map (al 39 ae))) := by
 obtain ⟨n,h⟩ := km H
 exact (tM  n).1 rA q r h
def jX (sA : LSchema) (q : LQuery) : Option (Bool) :=
 af (
  af (mg q 400) fun x8 =>
  cond (decide (x8 < (0 : Int)))
   (some true)
   (af (iT sA) fun x12 =>
   some (x12 != (0 : Int)))) fun (t1 : Bool) =>
 cond t1
  (some false)
  (af (lX sA q) fun x18 =>
  some (x18.2 == (0 : Int)))
theorem tL (sA : LSchema) (q : LQuery) (r : Bool) (H : jX sA q = some r) :
  aI Tryz.prog 19 [(.agg (bW sA)),(.agg (aG q))] (aC r) := by
 unfold jX at H
 refine PH.au Tryz.func19 Tryz.ntmps19 ?_
 refine ab (aa (aD ?_))
 refine aD ?_
 refine ah tk rfl (ac (ab (ab ?_)))
 refine gG (γ := Unit) (fun t1 g1=>⟨23,upd (upd (upd (fun _=>.any) 14 (aC t1)) 3 (.ptr (aG q))) 2 (.ptr (bW sA)),fun _=>none,fun _=>none⟩) H (fun _ H=>?_) (fun t1 g1 H=>?_)
 ·refine aa (ah tk rfl ?_)
  obtain ⟨x8,h8,H⟩ := ax H
  have s8 := ux q 400 _ h8
  refine ak Tryz.call42 (jx.r) s8 ?_
  refine ag 2 tk rfl ?_
  refine bf rfl rfl rfl H (fun H=>?_) (fun H=>?_)
  ·refine ag 4 tk rfl (ac ?_)
   refine aR _ () (aA H) Gh.d
  refine ah tk rfl ?_
  obtain ⟨x12,h12,H⟩ := ax H
  have s12 := tG sA _ h12
  refine ak Tryz.call43 (jx.r) s12 ?_
  refine ag 2 tk rfl (ac ?_)
  refine aR _ () (aA H) Gh.d
 refine aH rfl H (fun H=>?_) (fun H=>?_)
 ·refine ao 1 tk rfl ?_
  exact aW tk H rfl
 refine ap (ab (aa (ag 2 tk rfl ?_)))
 obtain ⟨x18,h18,H⟩ := ax H
 have s18 := W_query_Check sA q _ h18
 refine ak Tryz.call44 (jx.r) s18 ?_
 refine ag 5 tk rfl (ac (ao 3 tk rfl ?_))
 exact aW tk H rfl
def ix (sA : LSchema) (st : List LRelation) (q : LQuery) (args : Rq) (vars : List LCol) (vals : Rq) : Option (LResult × Int) :=
 af (gd sA vars q) fun x28 =>
 cond (x28.2 != (0 : Int))
  (some ((LResult.mk [] []),x28.2))
  (af (fw q args) fun x37 =>
  cond (x37 != (0 : Int))
   (some ((LResult.mk [] []),x37))
   (af (fy sA st) fun x44 =>
   cond (x44 != (0 : Int))
    (some ((LResult.mk [] []),x44))
    (af (aE (σ := List (List UInt8)) (ρ := Empty) (fun (_ : Nat) (x1 : LCol) (s1 : List (List UInt8)) =>
     af (dh 16 s1 ([x1.name] : List (List UInt8))) fun (x66 : List (List UInt8)) =>
     some (.next x66)) 0 vars []) fun fl1=>fl1.thenP fun (s1 : List (List UInt8)) =>
    af (lY (LRun.mk sA st args vars s1 vals) q) fun x73 =>
    af (aE (σ := Rz) (ρ := Empty) (fun (_ : Nat) (x2 : Rq) (s2 : Rz) =>
     af (dh 24 s2 ([x2] : Rz)) fun (x84 : Rz) =>
     some (.next x84)) 0 x73 []) fun fl2=>fl2.thenP fun (s2 : Rz) =>
    some ((LResult.mk x28.1 s2),0))))
theorem qr (sA : LSchema) (st : List LRelation) (q : LQuery) (args : Rq) (vars : List LCol) (vals : Rq) (r : LResult × Int) (H : ix sA st q args vars vals = some r) :
  aI Tryz.prog 41 [(.agg (bW sA)),(.list 68 (st.map dw)),(.agg (aG q)),(.list 39 (args.map ae)),(.list 51 (vars.map aN)),(.list 39 (vals.map ae))] (.tup [(.agg (iH r.1)),(am r.2)]) := by
 unfold ix at H
 refine PH.au Tryz.func41 Tryz.ntmps41 ?_
 refine ab (aa (aD ?_))
 refine aD ?_
 refine ba tk fun b12=>?_
 refine ah tk rfl (ac (ab (aa (ag 3 tk rfl ?_))))
 obtain ⟨x28,h28,H⟩ := ax H
 have s28 := nh sA vars q _ h28
 refine ak Tryz.call67 (jx.r) s28 ?_
 refine ag 5 tk rfl (ac (ab (ao 2 tk rfl ?_)))
 refine aH rfl H (fun H=>?_) (fun H=>?_)
 ·refine ab (aa (ag 2 tk rfl (aq tk ?_)))
  refine ah tk rfl (ac ?_)
  obtain rfl := aA H
  refine bc tk rfl (ps := [(.agg [(.val (.slice none 0 0)),(.val (.slice none 0 0))]),(am x28.2)]) ⟨_,_,rfl,⟨_,_,_,_,_,rfl,rfl,rfl,rfl⟩,_,_,rfl,rfl,rfl⟩ (PLe.of2 (oG.tup (iK.cons (oG.agg (iK.cons (oG.nil tk rfl) (iK.cons (oG.nil tk rfl) iK.nil))) (iK.cons (oG.of_eq rfl) iK.nil))))
 refine ap (ab (ab (aa (ag 2 tk rfl ?_))))
 obtain ⟨x37,h37,H⟩ := ax H
 have s37 := lH q args _ h37
 refine ak Tryz.call21 (jx.r) s37 ?_
 refine ah tk rfl (ac (ao 2 tk rfl ?_))
 refine aH rfl H (fun H=>?_) (fun H=>?_)
 ·refine ab (aa (ag 2 tk rfl (aq tk ?_)))
  refine ah tk rfl (ac ?_)
  obtain rfl := aA H
  refine bc tk rfl (ps := [(.agg [(.val (.slice none 0 0)),(.val (.slice none 0 0))]),(am x37)]) ⟨_,_,rfl,⟨_,_,_,_,_,rfl,rfl,rfl,rfl⟩,_,_,rfl,rfl,rfl⟩ (PLe.of2 (oG.tup (iK.cons (oG.agg (iK.cons (oG.nil tk rfl) (iK.cons (oG.nil tk rfl) iK.nil))) (iK.cons (oG.of_eq rfl) iK.nil))))
 refine ap (ab (ab (aa (ag 2 tk rfl ?_))))
 obtain ⟨x44,h44,H⟩ := ax H
 have s44 := ng sA st _ h44
 refine ak Tryz.call20 (jx.r) s44 ?_
 refine ah tk rfl (ac (ao 2 tk rfl ?_))
 refine aH rfl H (fun H=>?_) (fun H=>?_)
 ·refine ab (aa (ag 2 tk rfl (aq tk ?_)))
  refine ah tk rfl (ac ?_)
  obtain rfl := aA H
  refine bc tk rfl (ps := [(.agg [(.val (.slice none 0 0)),(.val (.slice none 0 0))]),(am x44)]) ⟨_,_,rfl,⟨_,_,_,_,_,rfl,rfl,rfl,rfl⟩,_,_,rfl,rfl,rfl⟩ (PLe.of2 (oG.tup (iK.cons (oG.agg (iK.cons (oG.nil tk rfl) (iK.cons (oG.nil tk rfl) iK.nil))) (iK.cons (oG.of_eq rfl) iK.nil))))
 refine ap (ab (aa (ag 6 tk rfl ?_)))
 refine ba tk fun b18=>?_
 refine aq tk ?_
 refine ac (ab (ab (aa (ah tk rfl (az tk (zl _) ?_)))))
 refine ah tk rfl (ac (te tk 18 6 66 (e := 9) rfl rfl rfl rfl ?_))
 refine gQ (γ := OwnRef) tk 57 56 55 (fun s1 g1=>upd (upd (upd (upd (fun _=>.any) 18 (.box 18 b18 0)) 14 (.list 51 (x28.1.map aN))) 12 (.box 12 b12 0)) 8 (.ptr (aG q))) (fun s1 g1=>upd (upd (fun _=>none) 18 (some ⟨b18,[(.list 65 (sA.tables.map cD)),(.list 143 (sA.foreignKeys.map jL)),(.list 149 (sA.constraints.map kU)),(.list 68 (st.map dw)),(.list 39 (args.map ae)),(.list 51 (vars.map aN)),(.own 66 g1 (s1.map nG).length),(.list 39 (vals.map ae))]⟩)) 12 (some ⟨b12,[(.val (.slice none 0 0)),(.val (.slice none 0 0))]⟩)) (fun s1 g1=>upd (fun _=>none) 66 (some ⟨g1,9,(s1.map nG),true⟩)) (⟨none,0⟩) H (fun fl1 Hp1 j1 s1 g1 hz1 hl1 x1 fb1 hx1 H hg1=>?_) (fun s1 g1 H=>?_)
 ·refine ab (av (ab (aa ?_)))
  refine aQ tk (zn j1) (bj (fun _=>rfl) hx1) ?_
  refine ah tk rfl ?_
  refine ba tk fun b20=>?_
  refine aq tk ?_
  refine ac (aa (ah tk rfl (aB tk ?_)))
  refine ah tk rfl (aB tk ?_)
  refine bU tk (rows' := List.map nG ([x1.name] : List (List UInt8))) (fU.refl _) ?_
  obtain ⟨x66,h66,H⟩ := ax H
  have k66 := cj h66
  refine cf (rows2' := List.map nG ([x1.name] : List (List UInt8))) (rows' := List.map nG x66) tk rfl rfl rfl rfl rfl rfl rfl rfl rfl rfl rfl rfl rfl (fU.refl _) (dC k66.1) (dy k66.2.1) (dB k66.2.2) fun g66=>?_
  refine ah tk rfl (aq tk ?_)
  refine ac (aF (aX 2 tk rfl ?_))
  exact bi g66 H hl1 hg1
 refine ab (aa (ag 2 tk rfl ?_))
 refine ba tk fun b21=>?_
 refine aq tk ?_
 refine ac (ab (ab (rP 18 6 rfl rfl rfl rfl rfl (aa (aB tk ?_)))))
 refine ah tk rfl ?_
 obtain ⟨x73,h73,H⟩ := ax H
 have s73 := uv (LRun.mk sA st args vars s1 vals) q _ h73
 refine ak Tryz.call68 (jx.r) s73 ?_
 refine az tk (zl _) ?_
 refine ah tk rfl (ac (te tk 21 1 84 (e := 61) rfl rfl rfl rfl ?_))
 refine gQ (γ := OwnRef) tk 75 74 73 (fun s2 g2=>upd (upd (fun _=>.any) 21 (.box 21 b21 0)) 12 (.box 12 b12 0)) (fun s2 g2=>upd (upd (fun _=>none) 21 (some ⟨b21,[(.list 51 (x28.1.map aN)),(.own 84 g2 (s2.map (al 39 ae)).length)]⟩)) 12 (some ⟨b12,[(.val (.slice none 0 0)),(.val (.slice none 0 0))]⟩)) (fun s2 g2=>upd (fun _=>none) 84 (some ⟨g2,61,(s2.map (al 39 ae)),true⟩)) (⟨none,0⟩) H (fun fl2 Hp2 j2 s2 g2 hz2 hl2 x2 fb2 hx2 H hg2=>?_) (fun s2 g2 H=>?_)
 ·refine ab (av (ab (aa ?_)))
  refine aQ tk (zn j2) (bj (fun _=>rfl) hx2) ?_
  refine ag 2 tk rfl (ac (bw tk mok ⟨true,false,[]⟩ [0,1,2,3,4,5,6,7] rfl (by decide +kernel) rfl (bT rfl (cu ?_))))
  refine bT rfl ?_
  have s82 := clone_69 (m := 82) x2
  refine aV Tryz.call69 (jx.r) (PFun.iy s82) ?_
  refine bT rfl ?_
  obtain ⟨x84,h84,H⟩ := ax H
  have k84 := cj h84
  refine mM (rows2' := List.map (al 39 ae) ([x2] : Rz)) (rows' := List.map (al 39 ae) x84) tk rfl rfl rfl rfl rfl rfl rfl rfl rfl rfl rfl rfl rfl rfl (fU.refl _) (dC k84.1) (dy k84.2.1) (dB k84.2.2) fun g84=>?_
  refine bT rfl (ff ?_)
  refine br (aF (aX 2 tk rfl ?_))
  exact bi g84 H hl2 hg2
 refine ab (aa (aB tk ?_))
 refine aq tk ?_
 refine ah tk rfl (ac ?_)
 obtain rfl := aA H
 refine rP 12 1 rfl rfl rfl rfl rfl ?_
 refine bc tk rfl (ps := [(.agg [(.list 51 (x28.1.map aN)),(.list 61 (s2.map (al 39 ae)))]),(am 0)]) ⟨_,_,rfl,⟨_,_,_,_,_,rfl,rfl,rfl,rfl⟩,_,_,rfl,rfl,rfl⟩ (PLe.q rfl)
def jp (sA : LSchema) (st : List LRelation) (q : LQuery) (args : Rq) : Option (Bool) :=
 af (jX sA q) fun x11 =>
 cond x11
  (cond (decide ((args.length : Int) ≤ (20 : Int)))
   (af (fy sA st) fun x20 =>
   cond (x20 == (0 : Int))
    (af (fw q args) fun x26 =>
    some (x26 == (0 : Int)))
    (some false))
   (some false))
  (some false)
theorem un (sA : LSchema) (st : List LRelation) (q : LQuery) (args : Rq) (r : Bool) (H : jp sA st q args = some r) :
  aI Tryz.prog 6 [(.agg (bW sA)),(.list 68 (st.map dw)),(.agg (aG q)),(.list 39 (args.map ae))] (aC r) := by
 unfold jp at H
 refine PH.au Tryz.func6 Tryz.ntmps6 ?_
 refine ab (aa (aD ?_))
 refine aD ?_
 refine ah tk rfl (ac (ab (aa (ag 2 tk rfl ?_))))
 obtain ⟨x11,h11,H⟩ := ax H
 have s11 := tL sA q _ h11
 refine ak Tryz.call19 (jx.r) s11 ?_
 refine ah tk rfl ?_
 refine bf rfl rfl rfl H (fun H=>?_) (fun H=>?_)
 ·refine ah tk rfl (az tk (zl _) ?_)
  refine ag 3 tk rfl ?_
  refine bf rfl rfl rfl H (fun H=>?_) (fun H=>?_)
  ·refine ag 2 tk rfl ?_
   obtain ⟨x20,h20,H⟩ := ax H
   have s20 := ng sA st _ h20
   refine ak Tryz.call20 (jx.r) s20 ?_
   refine ag 3 tk rfl ?_
   refine bf rfl rfl rfl H (fun H=>?_) (fun H=>?_)
   ·refine ag 2 tk rfl ?_
    obtain ⟨x26,h26,H⟩ := ax H
    have s26 := lH q args _ h26
    refine ak Tryz.call21 (jx.r) s26 ?_
    refine ag 3 tk rfl (ac ?_)
    exact aW tk H rfl
   refine ag 6 tk rfl (ac ?_)
   exact aW tk H rfl
  refine ag 12 tk rfl (ac ?_)
  exact aW tk H rfl
 refine ag 17 tk rfl (ac ?_)
 exact aW tk H rfl
def kq (sA : LSchema) (st : List LRelation) (q : LQuery) (args : Rq) : Option (LResult × Int) :=
 af (ix sA st q args ([] : List LCol) ([] : Rq)) fun x14 =>
 some (x14.1,x14.2)
theorem uo (sA : LSchema) (st : List LRelation) (q : LQuery) (args : Rq) (r : LResult × Int) (H : kq sA st q args = some r) :
  aI Tryz.prog 18 [(.agg (bW sA)),(.list 68 (st.map dw)),(.agg (aG q)),(.list 39 (args.map ae))] (.tup [(.agg (iH r.1)),(am r.2)]) := by
 unfold kq at H
 refine PH.au Tryz.func18 Tryz.ntmps18 ?_
 refine ab (aa (aD ?_))
 refine aD ?_
 refine ba tk fun b8=>?_
 refine ah tk rfl (ac (ab (aa (ag 4 tk rfl ?_))))
 obtain ⟨x14,h14,H⟩ := ax H
 have s14 := qr sA st q args ([] : List LCol) ([] : Rq) _ h14
 refine ak Tryz.call41 (jx.of2 (iK.cons (oG.of_eq rfl) (iK.cons (oG.of_eq rfl) (iK.cons (oG.of_eq rfl) (iK.cons (oG.of_eq rfl) (iK.cons (oG.nil tk rfl) (iK.cons (oG.nil tk rfl) iK.nil))))))) s14 ?_
 refine ag 2 tk rfl (aq tk ?_)
 refine ah tk rfl (ac ?_)
 obtain rfl := aA H
 refine bc tk rfl (ps := [(.agg (iH x14.1)),(am x14.2)]) ⟨_,_,rfl,⟨_,_,_,_,_,rfl,rfl,rfl,rfl⟩,_,_,rfl,rfl,rfl⟩ (PLe.q rfl)
def eY (sA : LSchema) (st : List LRelation) (q : LQuery) (args : Rq) : Option (LResult × Bool) :=
 af (kq sA st q args) fun x17 =>
 some (x17.1,(x17.2 == (0 : Int)))
theorem kp (sA : LSchema) (st : List LRelation) (q : LQuery) (args : Rq) (r : LResult × Bool) (H : eY sA st q args = some r) :
  aI Tryz.prog 7 [(.agg (bW sA)),(.list 68 (st.map dw)),(.agg (aG q)),(.list 39 (args.map ae))] (.tup [(.agg (iH r.1)),(aC r.2)]) := by
 unfold eY at H
 refine PH.au Tryz.func7 Tryz.ntmps7 ?_
 refine ab (aa (aD ?_))
 refine aD ?_
 refine ba tk fun b8=>?_
 refine ah tk rfl (ac (ab (aa (ag 4 tk rfl ?_))))
 obtain ⟨x17,h17,H⟩ := ax H
 have s17 := uo sA st q args _ h17
 refine ak Tryz.call18 (jx.r) s17 ?_
 refine ag 3 tk rfl ?_
 refine ba tk fun b10=>?_
 refine aq tk ?_
 refine ah tk rfl (ac (ab (aa (aB tk ?_))))
 refine ag 2 tk rfl (aq tk ?_)
 refine ah tk rfl (ac ?_)
 obtain rfl := aA H
 refine bc tk rfl (ps := [(.agg (iH x17.1)),(aC (x17.2 == (0 : Int)))]) ⟨_,_,rfl,⟨_,_,_,_,_,rfl,rfl,rfl,rfl⟩,_,_,rfl,rfl,rfl⟩ (PLe.q rfl)
def dX (sA : LSchema) (st : List LRelation) (q : LQuery) (rA : LQuery) (x : List UInt8) (y : List UInt8) (outer : Bool) (args : Rq) : Option (Bool) :=
 bp (sampleV) fun x28 =>
 cond (!x28)
  (some false)
  (bp (
   cond outer
    (5)
    (4)) fun (t1 : Int) =>
  af (jp sA st (LQuery.mk t1 [] [] [(LExpr.mk 5 [61] 0 (LVal.mk 0 0 []) [(LExpr.mk 2 x 0 (LVal.mk 0 0 []) []),(LExpr.mk 2 y 0 (LVal.mk 0 0 []) [])])] [] [] 0 0 [q,rA]) args) fun x47 =>
  cond (!x47)
   (some true)
   (af (eY sA st q args) fun x54 =>
   af (eY sA st rA args) fun x62 =>
   af (eY sA st (LQuery.mk t1 [] [] [(LExpr.mk 5 [61] 0 (LVal.mk 0 0 []) [(LExpr.mk 2 x 0 (LVal.mk 0 0 []) []),(LExpr.mk 2 y 0 (LVal.mk 0 0 []) [])])] [] [] 0 0 [q,rA]) args) fun x70 =>
   bp (
    cond (!x54.2)
     (true)
     (cond (!x62.2)
      (true)
      ((!x70.2)))) fun (t2 : Bool) =>
   cond t2
    (some false)
    (af (bv x54.1.columns (fun a0=>some (bY a0 x))) fun x86 =>
    af (bv x62.1.columns (fun a0=>some (bZ a0 y))) fun x90 =>
    bp (
     cond (decide (x86 < (0 : Int)))
      (true)
      (cond (decide (x90 < (0 : Int)))
       (true)
       (cond (decide ((x54.1.rows.length : Int) > (400 : Int)))
        (true)
        ((decide ((x62.1.rows.length : Int) > (400 : Int))))))) fun (t3 : Bool) =>
    cond t3
     (some true)
     (af (im x54.1.rows x62.1.rows (LJoinalgoCondition.mk [x86] [x90] outer (x62.1.columns.length : Int))) fun x123 =>
     cond (x123.2 == (0 : Int))
      (af (gV x123.1 x70.1.rows) fun x132 =>
      some x132)
      (some false)))))
theorem kW (sA : LSchema) (st : List LRelation) (q : LQuery) (rA : LQuery) (x : List UInt8) (y : List UInt8) (outer : Bool) (args : Rq) (r : Bool) (H : dX sA st q rA x y outer args = some r) :
  aI Tryz.prog 3 [(.agg (bW sA)),(.list 68 (st.map dw)),(.agg (aG q)),(.agg (aG rA)),(.str x),(.str y),(aC outer),(.list 39 (args.map ae))] (aC r) := by
 unfold dX at H
 refine PH.au Tryz.func3 Tryz.ntmps3 ?_
 refine ab (aa (aD ?_))
 refine aD ?_
 refine aD ?_
 refine aD ?_
 refine aD ?_
 refine ah tk rfl (ac (ab (ab (aa ?_))))
 obtain ⟨x28,h28,H⟩ := cL H
 have s28 := sampleV_spec
 rw [h28] at s28
 refine ak Tryz.call5 (jx.r) s28 ?_
 refine ah tk rfl (ac ?_)
 refine aH rfl H (fun H=>?_) (fun H=>?_)
 ·refine ao 1 tk rfl ?_
  exact aW tk H rfl
 refine ap (ab (aa (ag 4 tk rfl (bU tk (rows' := List.map eA ([(LExpr.mk 2 x 0 (LVal.mk 0 0 []) []),(LExpr.mk 2 y 0 (LVal.mk 0 0 []) [])] : List LExpr)) (fU.trans (b := List.map iM [(LExpr.mk 2 x 0 (LVal.mk 0 0 []) []),(LExpr.mk 2 y 0 (LVal.mk 0 0 []) [])]) (fU.cons (ta.cons (oG.of_eq rfl) (ta.cons (oG.of_eq rfl) (ta.cons (oG.of_eq rfl) (ta.cons (oG.of_eq rfl) (ta.cons (oG.of_eq rfl) (ta.cons (oG.of_eq rfl) (ta.cons (oG.nil tk rfl) ta.nil))))))) (fU.cons (ta.cons (oG.of_eq rfl) (ta.cons (oG.of_eq rfl) (ta.cons (oG.of_eq rfl) (ta.cons (oG.of_eq rfl) (ta.cons (oG.of_eq rfl) (ta.cons (oG.of_eq rfl) (ta.cons (oG.nil tk rfl) ta.nil))))))) fU.nil)) (fU.of_eq (qG dK [(LExpr.mk 2 x 0 (LVal.mk 0 0 []) []),(LExpr.mk 2 y 0 (LVal.mk 0 0 []) [])]))) ?_))))
 refine ah tk rfl (bU tk (rows' := List.map eA ([(LExpr.mk 5 [61] 0 (LVal.mk 0 0 []) [(LExpr.mk 2 x 0 (LVal.mk 0 0 []) []),(LExpr.mk 2 y 0 (LVal.mk 0 0 []) [])])] : List LExpr)) (fU.trans (b := List.map iM [(LExpr.mk 5 [61] 0 (LVal.mk 0 0 []) [(LExpr.mk 2 x 0 (LVal.mk 0 0 []) []),(LExpr.mk 2 y 0 (LVal.mk 0 0 []) [])])]) (fU.refl _) (fU.of_eq (qG dK [(LExpr.mk 5 [61] 0 (LVal.mk 0 0 []) [(LExpr.mk 2 x 0 (LVal.mk 0 0 []) []),(LExpr.mk 2 y 0 (LVal.mk 0 0 []) [])])]))) ?_)
 refine ag 2 tk rfl (bU tk (rows' := List.map bV ([q,rA] : List LQuery)) (fU.trans (b := List.map aG [q,rA]) (fU.refl _) (fU.of_eq (qG bQ [q,rA]))) ?_)
 refine ah tk rfl ?_
 refine ba tk fun b17=>?_
 refine aq tk ?_
 refine ac (ab (ao 1 tk rfl ?_))
 refine eQ (γ := Unit) (fun t1 g1=>⟨134,upd (upd (upd (upd (upd (upd (upd (upd (upd (fun _=>.any) 17 (.box 17 b17 0)) 13 (.ptr [(.str y)])) 12 (.ptr [(.str x)])) 11 (.ptr (aG rA))) 10 (.ptr (aG q))) 8 (.ptr (bW sA))) 7 (.list 39 (args.map ae))) 6 (aC outer)) 1 (.list 68 (st.map dw)),upd (fun _=>none) 17 (some ⟨b17,[(am t1),(.str []),(.val (.slice none 0 0)),(.list 41 (([(LExpr.mk 5 [61] 0 (LVal.mk 0 0 []) [(LExpr.mk 2 x 0 (LVal.mk 0 0 []) []),(LExpr.mk 2 y 0 (LVal.mk 0 0 []) [])])] : List LExpr).map eA)),(.val (.slice none 0 0)),(.val (.slice none 0 0)),(am 0),(am 0),(.list 35 (([q,rA] : List LQuery).map bV))]⟩),fun _=>none⟩) H (fun _ H=>?_) (fun t1 g1 H=>?_)
 ·refine aH rfl H (fun H=>?_) (fun H=>?_)
  ·refine aa (ah tk rfl (aq tk ?_))
   refine ac ?_
   refine aR _ () H Gh.d
  refine ap ?_
  refine aR _ () H Gh.d
 refine ab (ab (aa (ag 2 tk rfl (aB tk ?_))))
 refine ah tk rfl ?_
 obtain ⟨x47,h47,H⟩ := ax H
 have s47 := un sA st (LQuery.mk t1 [] [] [(LExpr.mk 5 [61] 0 (LVal.mk 0 0 []) [(LExpr.mk 2 x 0 (LVal.mk 0 0 []) []),(LExpr.mk 2 y 0 (LVal.mk 0 0 []) [])])] [] [] 0 0 [q,rA]) args _ h47
 refine ak Tryz.call6 (jx.of2 (iK.cons (oG.of_eq rfl) (iK.cons (oG.of_eq rfl) (iK.cons (oG.agg (iK.cons (oG.of_eq rfl) (iK.cons (oG.of_eq rfl) (iK.cons (oG.nil tk rfl) (iK.cons (oG.of_eq rfl) (iK.cons (oG.nil tk rfl) (iK.cons (oG.nil tk rfl) (iK.cons (oG.of_eq rfl) (iK.cons (oG.of_eq rfl) (iK.cons (oG.of_eq rfl) iK.nil)))))))))) (iK.cons (oG.of_eq rfl) iK.nil))))) s47 ?_
 refine ah tk rfl (ac ?_)
 refine aH rfl H (fun H=>?_) (fun H=>?_)
 ·refine ao 1 tk rfl ?_
  exact aW tk H rfl
 refine ap (ab (aa (ag 4 tk rfl ?_)))
 obtain ⟨x54,h54,H⟩ := ax H
 have s54 := kp sA st q args _ h54
 refine ak Tryz.call7 (jx.r) s54 ?_
 refine ag 3 tk rfl ?_
 refine ba tk fun b18=>?_
 refine aq tk ?_
 refine ah tk rfl (ac (ab (aa (ag 4 tk rfl ?_))))
 obtain ⟨x62,h62,H⟩ := ax H
 have s62 := kp sA st rA args _ h62
 refine ak Tryz.call7 (jx.r) s62 ?_
 refine ag 3 tk rfl ?_
 refine ba tk fun b20=>?_
 refine aq tk ?_
 refine ah tk rfl (ac (ab (aa (ag 2 tk rfl (aB tk ?_)))))
 refine ah tk rfl ?_
 obtain ⟨x70,h70,H⟩ := ax H
 have s70 := kp sA st (LQuery.mk t1 [] [] [(LExpr.mk 5 [61] 0 (LVal.mk 0 0 []) [(LExpr.mk 2 x 0 (LVal.mk 0 0 []) []),(LExpr.mk 2 y 0 (LVal.mk 0 0 []) [])])] [] [] 0 0 [q,rA]) args _ h70
 refine ak Tryz.call7 (jx.of2 (iK.cons (oG.of_eq rfl) (iK.cons (oG.of_eq rfl) (iK.cons (oG.agg (iK.cons (oG.of_eq rfl) (iK.cons (oG.of_eq rfl) (iK.cons (oG.nil tk rfl) (iK.cons (oG.of_eq rfl) (iK.cons (oG.nil tk rfl) (iK.cons (oG.nil tk rfl) (iK.cons (oG.of_eq rfl) (iK.cons (oG.of_eq rfl) (iK.cons (oG.of_eq rfl) iK.nil)))))))))) (iK.cons (oG.of_eq rfl) iK.nil))))) s70 ?_
 refine ag 3 tk rfl ?_
 refine ba tk fun b22=>?_
 refine aq tk ?_
 refine ah tk rfl (ac (ab (ab ?_)))
 refine eQ (γ := Unit) (fun t2 g2=>⟨134,upd (upd (upd (upd (upd (upd (upd (fun _=>.any) 82 (aC t2)) 22 (.box 22 b22 0)) 20 (.box 20 b20 0)) 18 (.box 18 b18 0)) 13 (.ptr [(.str y)])) 12 (.ptr [(.str x)])) 6 (aC outer),upd (upd (upd (fun _=>none) 22 (some ⟨b22,(iH x70.1)⟩)) 20 (some ⟨b20,(iH x62.1)⟩)) 18 (some ⟨b18,(iH x54.1)⟩),fun _=>none⟩) H (fun _ H=>?_) (fun t2 g2 H=>?_)
 ·refine aa (ag 3 tk rfl ?_)
  refine bf rfl rfl rfl H (fun H=>?_) (fun H=>?_)
  ·refine ag 7 tk rfl (ac ?_)
   refine aR _ () H Gh.d
  refine ag 4 tk rfl ?_
  refine bf rfl rfl rfl H (fun H=>?_) (fun H=>?_)
  ·refine ag 3 tk rfl (ac ?_)
   refine aR _ () H Gh.d
  refine ag 3 tk rfl (ac ?_)
  refine aR _ () H Gh.d
 refine aH rfl H (fun H=>?_) (fun H=>?_)
 ·refine ao 1 tk rfl ?_
  exact aW tk H rfl
 refine ap (ab (aa (ah tk rfl (aB tk ?_))))
 refine ah tk rfl ?_
 obtain ⟨x86,h86,H⟩ := ax H
 have s86 := dp x54.1.columns (fun a0=>some (bY a0 x)) Tryz.call9 (fun a0 r h=>(aA h) ▸ kI a0 x) _ h86
 refine ak Tryz.call8 (jx.r) s86 ?_
 refine ah tk rfl (ac (ab (aa (ah tk rfl (aB tk ?_)))))
 refine ah tk rfl ?_
 obtain ⟨x90,h90,H⟩ := ax H
 have s90 := dp x62.1.columns (fun a0=>some (bZ a0 y)) Tryz.call10 (fun a0 r h=>(aA h) ▸ kG a0 y) _ h90
 refine ak Tryz.call8 (jx.r) s90 ?_
 refine ah tk rfl (ac (ab (ab ?_)))
 refine eQ (γ := Unit) (fun t3 g3=>⟨134,upd (upd (upd (upd (upd (upd (upd (fun _=>.any) 108 (aC t3)) 25 (am x90)) 24 (am x86)) 22 (.box 22 b22 0)) 20 (.box 20 b20 0)) 18 (.box 18 b18 0)) 6 (aC outer),upd (upd (upd (fun _=>none) 22 (some ⟨b22,(iH x70.1)⟩)) 20 (some ⟨b20,(iH x62.1)⟩)) 18 (some ⟨b18,(iH x54.1)⟩),fun _=>none⟩) H (fun _ H=>?_) (fun t3 g3 H=>?_)
 ·refine aa (ag 3 tk rfl ?_)
  refine bf rfl rfl rfl H (fun H=>?_) (fun H=>?_)
  ·refine ag 15 tk rfl (ac ?_)
   refine aR _ () H Gh.d
  refine ag 4 tk rfl ?_
  refine bf rfl rfl rfl H (fun H=>?_) (fun H=>?_)
  ·refine ag 11 tk rfl (ac ?_)
   refine aR _ () H Gh.d
  refine ah tk rfl (aB tk ?_)
  refine az tk (zl _) ?_
  refine ag 3 tk rfl ?_
  refine bf rfl rfl rfl H (fun H=>?_) (fun H=>?_)
  ·refine ag 5 tk rfl (ac ?_)
   refine aR _ () H Gh.d
  refine ah tk rfl (aB tk ?_)
  refine az tk (zl _) ?_
  refine ag 2 tk rfl (ac ?_)
  refine aR _ () H Gh.d
 refine aH rfl H (fun H=>?_) (fun H=>?_)
 ·refine ao 1 tk rfl ?_
  exact aW tk H rfl
 refine ap (ab (aa (ah tk rfl (aB tk ?_))))
 refine ah tk rfl (aB tk ?_)
 refine ah tk rfl (bU tk (rows' := List.map bG ([x86] : List Int)) (fU.refl _) ?_)
 refine ah tk rfl (bU tk (rows' := List.map bG ([x90] : List Int)) (fU.refl _) ?_)
 refine ag 2 tk rfl (aB tk ?_)
 refine az tk (zl _) ?_
 refine ah tk rfl ?_
 obtain ⟨x123,h123,H⟩ := ax H
 have s123 := sh x54.1.rows x62.1.rows (LJoinalgoCondition.mk [x86] [x90] outer (x62.1.columns.length : Int)) _ h123
 refine ak Tryz.call11 (jx.r) s123 ?_
 refine ag 5 tk rfl (ac (ab (aa (ag 3 tk rfl ?_))))
 refine bf rfl rfl rfl H (fun H=>?_) (fun H=>?_)
 ·refine ag 2 tk rfl (aB tk ?_)
  obtain ⟨x132,h132,H⟩ := ax H
  have s132 := rn x123.1 x70.1.rows _ h132
  refine ak Tryz.call12 (jx.r) s132 ?_
  refine ag 2 tk rfl (ac ?_)
  exact aW tk H rfl
 refine ag 6 tk rfl (ac ?_)
 exact aW tk H rfl
end
end Go.Proofs.YtifhafpljncplaaGreatDoor

namespace Go.Proofs.YtifhafpljncplaaGreatDoor
noncomputable section
open Go Go.Ab
theorem LQuery.inputs_lt {q x : LQuery} (h : x ∈ q.inputs) : SizeOf.sizeOf x < SizeOf.sizeOf q := by
 cases q
 simp only [LQuery.inputs] at h
 have := List.sizeOf_lt_of_mem h
 simp only [LQuery.mk.sizeOf_spec]
 omega
theorem LQuery.ind {p : LQuery → Prop} (h : ∀ q : LQuery,(∀ x ∈ q.inputs,p x) → p q) : ∀ q,p q := by
 intro q
 generalize hn : SizeOf.sizeOf q = n
 induction n using Nat.strongRecOn generalizing q with
 | _ n ih=>exact h q fun x hx=>ih _ (hn ▸ LQuery.inputs_lt hx) x rfl
theorem ev_all {α : Type} {p : α → Nat → Prop} : ∀ (xs : List α),(∀ x ∈ xs,∃ N,∀ n,N ≤ n → p x n) → ∃ N,∀ n,N ≤ n → ∀ x ∈ xs,p x n
 | [],_=>⟨0,fun _ _ x hx=>by simp at hx⟩
 | y :: xs,h=>by
  obtain ⟨N,hN⟩ := h y (by simp)
  obtain ⟨N',hN'⟩ := ev_all xs fun x hx=>h x (by simp [hx])
  refine ⟨N + N',fun n hn x hx=>?_⟩
  rcases List.mem_cons.1 hx with rfl | hx
  ·exact hN n (by omega)
  ·exact hN' n (by omega) x hx
theorem lg {α σ ρ : Type} {step step' : Nat → α → σ → Option (Flow σ ρ)} : ∀ (xs : List α) (j : Nat) (s : σ),(∀ k x s,xs[k]? = some x → step (j + k) x s = step' (j + k) x s) → aE step j xs s = aE step' j xs s
 | [],_,_,_=>rfl
 | x :: xs,j,s,h=>by
  have h0 := h 0 x s rfl
  rw [Nat.add_zero] at h0
  rw [aE,aE,h0]
  split
  ·rfl
  ·exact lg xs (j + 1) _ fun k y t hk=>by
    have := h (k + 1) y t (by simpa using hk)
    rwa [show j + (k + 1) = j + 1 + k from by omega] at this
  ·rfl
  ·rfl
theorem gI {α : Type} {xs : List α} {k : Nat} {x : α} (h : xs[k]? = some x) : x ∈ xs := List.mem_of_getElem? h
theorem pp {γ β : Type} {F : Nat → γ → LQuery → Option β} {O : (γ → LQuery → Option β) → γ → LQuery → Option β} (hF : ∀ n,F (n + 1) = O (F n)) (c : γ) (q : LQuery)
  (hc : ∀ r r' : γ → LQuery → Option β,(∀ x ∈ q.inputs,r c x = r' c x) → O r c q = O r' c q) (hx : ∀ x ∈ q.inputs,∃ v,jo (fun n=>F n c x) = some v) {r : β} (h : O (fun c q=>jo fun n=>F n c q) c q = some r) :
  jo (fun n=>F n c q) = some r := by
 obtain ⟨N,hN⟩ := ev_all (p := fun x n=>F n c x = jo fun n=>F n c x) q.inputs (fun x hm=>by
  obtain ⟨v,hv⟩ := hx x hm
  obtain ⟨N,hN⟩ := limN_ev hv
  exact ⟨N,fun n hn=>by rw [hN n hn,hv]⟩)
 refine qC (N + 1) fun m hm=>?_
 obtain ⟨m,rfl⟩ : ∃ k,m = k + 1 := ⟨m - 1,by omega⟩
 rw [hF,hc _ (fun c q=>jo fun n=>F n c q) (hN m (by omega)),h]
def cq (q : LQuery) : List LQuery := q :: (q.inputs.attach.map fun x=>cq x.1).flatten
termination_by SizeOf.sizeOf q
decreasing_by exact LQuery.inputs_lt x.2
theorem je (q : LQuery) : cq q = q :: (q.inputs.map cq).flatten := by
 rw [cq,List.attach_map_val (f := cq)]
theorem flat_le {α β : Type} {f : α → List β} {xs : List α} {x : α} (h : x ∈ xs) : (f x).length ≤ ((xs.map f).flatten).length := by
 induction xs with
 | nil=>simp at h
 | cons y xs ih =>
  simp only [List.map_cons,List.flatten_cons,List.length_append]
  rcases List.mem_cons.1 h with rfl | h
  ·omega
  ·have := ih h; omega
theorem lA {q x : LQuery} (h : x ∈ q.inputs) : (cq x).length + 1 ≤ (cq q).length := by
 rw [je q]
 have := flat_le (f := cq) h
 simp only [List.length_cons]
 omega
theorem ce {α : Type} {bytes : Nat} {xs ys : List α} (hb : bytes ≤ 200) (h : xs.length + ys.length ≤ 10000000) : dh bytes xs ys = some (xs ++ ys) := by
 refine pr ?_ (by unfold maxLen; omega)
 have : (xs.length + ys.length) * bytes ≤ 10000000 * 200 := Nat.mul_le_mul h hb
 omega
theorem take_flat {α β : Type} {f : α → List β} {xs : List α} {k : Nat} : (((xs.take k).map f).flatten).length ≤ ((xs.map f).flatten).length := by
 induction xs generalizing k with
 | nil=>simp
 | cons y xs ih =>
  cases k with
  | zero=>simp
  | succ k=>simp only [List.take_succ_cons,List.map_cons,List.flatten_cons,List.length_append]; have := ih (k := k); omega
theorem nodes_ok : ∀ q : LQuery,(cq q).length ≤ 10000000 → jH q = some (cq q) := by
 refine LQuery.ind fun q ih hb=>?_
 refine pp (γ := Unit) (F := fun n _ q=>jC n q) (O := fun r _ q=>jD (fun x=>r () x) q) (fun n=>rfl) () q ?_ (fun x hx=>⟨_,ih x hx (by have := lA hx; omega)⟩) ?_
 ·intro r r' h
  simp only [jD]
  congr 1
  exact lg q.inputs 0 _ fun k x s hk=>by rw [h x (gI hk)]
 ·have hr := rMa (step := fun (_ : Nat) (x1 : LQuery) (s1 : List LQuery)=>af (jH x1) fun x17=>af (dh 160 s1 x17) fun (x18 : List LQuery)=>some (Flow.next (ρ := Empty) x18)) (xs := q.inputs) (s := [q])
   (fun k=>q :: ((q.inputs.take k).map cq).flatten) (by simp) (fun k x hk=>by
    have hx := gI hk
    rw [ih x hx (by have := lA hx; omega),bPs,ce (by decide),bPs]
    ·rw [List.take_add_one,hk]; simp
    ·have h1 : (((q.inputs.take (k + 1)).map cq).flatten).length ≤ ((q.inputs.map cq).flatten).length := take_flat
     rw [List.take_add_one,hk] at h1
     rw [je] at hb
     simp at h1 hb ⊢
     omega)
  simp only [jD]
  have e : ∀ x,(jo fun n=>jC n x) = jH x := fun _=>rfl
  simp only [e]
  rw [hr,bPs,bM,List.take_length,je]
def dg (a b : Int) : Int := if b > a then b else a
theorem qA {a b c : Int} (h : a ≤ c) (h' : b ≤ c) : dg a b ≤ c := by unfold dg; split <;> assumption
theorem jn (a b : Int) : a ≤ dg a b := by unfold dg; split <;> omega
theorem oj (a b : Int) : b ≤ dg a b := by unfold dg; split <;> omega
def hC (q : LQuery) : Int := (q.inputs.attach.map fun x=>hC x.1).foldl dg 0 + 1
termination_by SizeOf.sizeOf q
decreasing_by exact LQuery.inputs_lt x.2
theorem qf (q : LQuery) : hC q = (q.inputs.map hC).foldl dg 0 + 1 := by
 rw [hC,List.attach_map_val (f := hC)]
theorem rY : ∀ {l : List Int} {a c : Int},a ≤ c → (∀ x ∈ l,x ≤ c) → l.foldl dg a ≤ c
 | [],_,_,h,_=>h
 | x :: l,a,c,h,hl=>rY (l := l) (qA h (hl x (by simp))) fun y hy=>hl y (by simp [hy])
theorem oC : ∀ {l : List Int} {a : Int},a ≤ l.foldl dg a ∧ ∀ x ∈ l,x ≤ l.foldl dg a
 | [],a=>⟨Int.le_refl a,by simp⟩
 | x :: l,a=>by
  obtain ⟨h1,h2⟩ := oC (l := l) (a := dg a x)
  simp only [List.foldl_cons]
  refine ⟨Int.le_trans (jn a x) h1,fun y hy=>?_⟩
  rcases List.mem_cons.1 hy with rfl | hy
  ·exact Int.le_trans (oj a y) h1
  ·exact h2 y hy
theorem depthQ_nodes : ∀ q : LQuery,1 ≤ hC q ∧ hC q ≤ (cq q).length := by
 refine LQuery.ind fun q ih=>?_
 rw [qf,je]
 have h1 : (q.inputs.map hC).foldl dg 0 ≤ (((q.inputs.map cq).flatten).length : Nat) := rY (by omega) fun x hx=>by
  obtain ⟨y,hy,rfl⟩ := List.mem_map.1 hx
  have := (ih y hy).2
  have := flat_le (f := cq) hy
  omega
 have h2 := (oC (l := q.inputs.map hC) (a := 0)).1
 simp only [List.length_cons]
 omega
theorem depthQ_sub {q x : LQuery} (h : x ∈ q.inputs) : hC x + 1 ≤ hC q := by
 rw [qf q]
 have := (oC (l := q.inputs.map hC) (a := 0)).2 (hC x) (List.mem_map.2 ⟨x,h,rfl⟩)
 omega
theorem depth_ok : ∀ q : LQuery,(cq q).length ≤ 10000000 → kE q = some (hC q) := by
 refine LQuery.ind fun q ih hb=>?_
 refine pp (γ := Unit) (F := fun n _ q=>jF n q) (O := fun r _ q=>jI (fun x=>r () x) q) (fun n=>rfl) () q ?_ (fun x hx=>⟨_,ih x hx (by have := lA hx; omega)⟩) ?_
 ·intro r r' h
  simp only [jI]
  congr 1
  exact lg q.inputs 0 _ fun k x s hk=>by rw [h x (gI hk)]
 ·have hr := rMa (step := fun (_ : Nat) (x1 : LQuery) (s1 : Int)=>af (kE x1) fun x15=>some (Flow.next (ρ := Empty) (if x15 > s1 then x15 else s1))) (xs := q.inputs) (s := 0)
   (fun k=>((q.inputs.take k).map hC).foldl dg 0) (by simp) (fun k x hk=>by
    have hx := gI hk
    rw [ih x hx (by have := lA hx; omega),bPs,List.take_add_one,hk]
    simp [dg])
  simp only [jI]
  have e : ∀ x,(jo fun n=>jF n x) = kE x := fun _=>rfl
  simp only [e]
  rw [hr,bPs,bM,List.take_length,qf]
  have h := depthQ_nodes q
  rw [qf] at h
  rw [bq (by omega) (by omega)]
def nL (n : Int) : Int := if 20001 < n then 20001 else n
def iR (kind : Int) (s : Int × Int) (j : Nat) (x : Int × Int) : Int × Int :=
 (nL (if j = 0 then x.1 else if kind = 6 then s.1 + x.1 else if kind = 4 ∨ kind = 5 then s.1 * dg 1 x.1 else s.1),dg s.2 x.2)
def ew (kind : Int) : Nat → List (Int × Int) → Int × Int → Int × Int
 | _,[],s=>s
 | j,x :: l,s=>ew kind (j + 1) l (iR kind s j x)
def bD (q : LQuery) : Int × Int :=
 let s := ew q.kind 0 (q.inputs.attach.map fun x=>bD x.1) (0,0)
 if q.kind = 1 then (24,dg s.2 24) else (s.1,dg s.2 s.1)
termination_by SizeOf.sizeOf q
decreasing_by exact LQuery.inputs_lt x.2
theorem nH (q : LQuery) : bD q = if q.kind = 1 then (24,dg (ew q.kind 0 (q.inputs.map bD) (0,0)).2 24) else ((ew q.kind 0 (q.inputs.map bD) (0,0)).1,dg (ew q.kind 0 (q.inputs.map bD) (0,0)).2 (ew q.kind 0 (q.inputs.map bD) (0,0)).1) := by
 rw [bD,List.attach_map_val (f := bD)]
def nN (s : Int × Int) : Prop := 0 ≤ s.1 ∧ s.1 ≤ 20001 ∧ 0 ≤ s.2 ∧ s.2 ≤ 20001
theorem capI_b {n : Int} (h : 0 ≤ n) : 0 ≤ nL n ∧ nL n ≤ 20001 := by unfold nL; split <;> omega
theorem mostStep_r {kind : Int} {s x : Int × Int} {j : Nat} (hs : nN s) (hx : nN x) : nN (iR kind s j x) := by
 obtain ⟨a1,a2,a3,a4⟩ := hs
 obtain ⟨b1,b2,b3,b4⟩ := hx
 unfold iR
 have h1 : 0 ≤ (if j = 0 then x.1 else if kind = 6 then s.1 + x.1 else if kind = 4 ∨ kind = 5 then s.1 * dg 1 x.1 else s.1) := by
  split
  ·exact b1
  ·split
   ·omega
   ·split
    ·exact Int.mul_nonneg a1 (Int.le_trans (by decide) (jn 1 x.1))
    ·exact a1
 exact ⟨(capI_b h1).1,(capI_b h1).2,Int.le_trans a3 (jn _ _),qA a4 b4⟩
theorem rO {kind : Int} : ∀ {l : List (Int × Int)} {j : Nat} {s : Int × Int},nN s → (∀ x ∈ l,nN x) → nN (ew kind j l s)
 | [],_,_,h,_=>h
 | x :: l,j,s,h,hl=>rO (l := l) (mostStep_r h (hl x (by simp))) fun y hy=>hl y (by simp [hy])
theorem mostQ_r : ∀ q : LQuery,nN (bD q) := by
 refine LQuery.ind fun q ih=>?_
 rw [nH]
 have h : nN (ew q.kind 0 (q.inputs.map bD) (0,0)) := rO ⟨by decide,by decide,by decide,by decide⟩ fun x hx=>by
  obtain ⟨y,hy,rfl⟩ := List.mem_map.1 hx
  exact ih y hy
 obtain ⟨a1,a2,a3,a4⟩ := h
 split
 ·exact ⟨show (0 : Int) ≤ 24 by decide,show (24 : Int) ≤ 20001 by decide,Int.le_trans a3 (jn _ _),qA a4 (by decide)⟩
 ·exact ⟨a1,a2,Int.le_trans a3 (jn _ _),qA a4 a2⟩
theorem sO (kind : Int) : ∀ (l : List (Int × Int)) (j : Nat) (s x : Int × Int),ew kind j (l ++ [x]) s = iR kind (ew kind j l s) (j + l.length) x
 | [],j,s,x=>by simp [ew]
 | y :: l,j,s,x=>by
  rw [List.cons_append,ew,sO kind l (j + 1),ew]
  congr 1
  simp
  omega
theorem mostStep_run {kind : Int} {s x : Int × Int} {j : Nat} (hs : nN s) (hx : nN x) :
  (cond ((j : Int) == (0 : Int))
   (some (Flow.next (ρ := Empty) ((if (20001 : Int) < x.1 then (20001 : Int) else x.1),(if x.2 > s.2 then x.2 else s.2))))
   (cond (kind == (6 : Int))
    (some (.next ((if (20001 : Int) < (IntKind.i64.wrap (s.1 + x.1)) then (20001 : Int) else (IntKind.i64.wrap (s.1 + x.1))),(if x.2 > s.2 then x.2 else s.2))))
    (bp (
     cond (kind == (4 : Int))
      (true)
      ((kind == (5 : Int)))) fun (t4 : Bool) =>
    cond t4
     (some (.next ((if (20001 : Int) < (IntKind.i64.wrap (s.1 * (if x.1 > (1 : Int) then x.1 else (1 : Int)))) then (20001 : Int) else (IntKind.i64.wrap (s.1 * (if x.1 > (1 : Int) then x.1 else (1 : Int))))),(if x.2 > s.2 then x.2 else s.2))))
     (some (.next ((if (20001 : Int) < s.1 then (20001 : Int) else s.1),(if x.2 > s.2 then x.2 else s.2))))))) = some (.next (iR kind s j x)) := by
 obtain ⟨a1,a2,a3,a4⟩ := hs
 obtain ⟨b1,b2,b3,b4⟩ := hx
 have hm : 1 ≤ dg 1 x.1 ∧ dg 1 x.1 ≤ 20001 := ⟨jn _ _,qA (by decide) b2⟩
 have hp : 0 ≤ s.1 * dg 1 x.1 ∧ s.1 * dg 1 x.1 ≤ 20001 * 20001 := ⟨Int.mul_nonneg a1 (by omega),Int.mul_le_mul a2 hm.2 (by omega) (by decide)⟩
 have hw1 : IntKind.i64.wrap (s.1 + x.1) = s.1 + x.1 := bq (by omega) (by omega)
 have hw2 : IntKind.i64.wrap (s.1 * (if x.1 > (1 : Int) then x.1 else (1 : Int))) = s.1 * dg 1 x.1 := bq (by show _ ≤ s.1 * dg 1 x.1; omega) (by show s.1 * dg 1 x.1 ≤ _; omega)
 rw [hw1,hw2]
 unfold iR nL dg bp
 by_cases h0 : j = 0
 ·subst h0; simp
 ·have : ((j : Int) == (0 : Int)) = false := by simp; omega
  rw [this]
  by_cases h6 : kind = 6
  ·subst h6; simp [h0]
  ·by_cases h4 : kind = 4
   ·subst h4; simp [h0]
   ·by_cases h5 : kind = 5
    ·subst h5; simp [h0]
    ·have e6 : (kind == (6 : Int)) = false := by simpa using h6
     have e4 : (kind == (4 : Int)) = false := by simpa using h4
     have e5 : (kind == (5 : Int)) = false := by simpa using h5
     simp [h0,h6,h4,h5,e6,e4,e5]
theorem most_ok : ∀ q : LQuery,mK q = some (bD q) := by
 refine LQuery.ind fun q ih=>?_
 refine pp (γ := Unit) (F := fun n _ q=>ke n q) (O := fun r _ q=>kh (fun x=>r () x) q) (fun n=>rfl) () q ?_ (fun x hx=>⟨_,ih x hx⟩) ?_
 ·intro r r' h
  simp only [kh]
  congr 1
  exact lg q.inputs 0 _ fun k x s hk=>by rw [h x (gI hk)]
 ·simp only [kh]
  have e : ∀ x,(jo fun n=>ke n x) = mK x := fun _=>rfl
  simp only [e]
  rw [rMa (xs := q.inputs) (s := (0,0)) (fun k=>ew q.kind 0 ((q.inputs.take k).map bD) (0,0)) (by simp [ew]) (fun k x hk=>by
    have hx := gI hk
    rw [ih x hx,bPs,mostStep_run (rO ⟨by decide,by decide,by decide,by decide⟩ fun y hy=>by
     obtain ⟨z,_,rfl⟩ := List.mem_map.1 hy
     exact mostQ_r z) (mostQ_r x),List.take_add_one,hk]
    have hk' := (zg.1 hk).1
    simp only [Option.toList_some,List.map_append,List.map_cons,List.map_nil]
    rw [sO]
    congr 3
    simp
    omega)]
  rw [bPs,bM,List.take_length,nH]
  by_cases h1 : q.kind = 1
  ·simp [h1,dg]
  ·have : (q.kind == (1 : Int)) = false := by simpa using h1
   simp [h1,this,dg]
def pM : List (Int → Int) → Int → Int
 | [],s=>s
 | f :: l,s=>if s < 0 then -1 else pM l (f (IntKind.i64.wrap (s - 1)))
def sizeHere (q : LQuery) (m : Int) : Int :=
 q.aggregates.foldl (fun s a=>a.args.foldl (fun s e=>jm e (IntKind.i64.wrap (s - 1))) s) (q.exprs.foldl (fun s e=>jm e (IntKind.i64.wrap (s - 1))) m)
def mN (q : LQuery) : Int → Int := fun m=>pM (q.inputs.attach.map fun x=>mN x.1) (sizeHere q m)
termination_by SizeOf.sizeOf q
decreasing_by exact LQuery.inputs_lt x.2
theorem sizeQ_eq (q : LQuery) (m : Int) : mN q m = pM (q.inputs.map mN) (sizeHere q m) := by
 rw [mN,List.attach_map_val (f := mN)]
theorem sC {f : LQuery → Int → Option Int} : ∀ (l : List LQuery) (j : Nat) (s : Int),(∀ x ∈ l,∀ m,f x m = some (mN x m)) →
  af (aE (σ := Int) (ρ := Int) (fun (_ : Nat) (x6 : LQuery) (s6 : Int)=>cond (decide (s6 < (0 : Int))) (some (.ret (-1))) (af (f x6 (IntKind.i64.wrap (s6 - (1 : Int)))) fun x57=>some (.next x57))) j l s) (fun fl6=>fl6.thenR fun (s6 : Int)=>some s6) = some (pM (l.map mN) s)
 | [],j,s,_=>rfl
 | x :: l,j,s,h=>by
  rw [aE,List.map_cons,pM]
  by_cases hs : s < 0
  ·simp [hs]
  ·simp only [hs,decide_false,zd,if_false]
   rw [h x (by simp),bPs]
   exact sC l (j + 1) _ fun y hy=>h y (by simp [hy])
theorem size_ok : ∀ (q : LQuery) (m : Int),mg q m = some (mN q m) := by
 have key : ∀ q : LQuery,∃ N,∀ n,N ≤ n → ∀ m,gz n q m = some (mN q m) := by
  refine LQuery.ind fun q ih=>?_
  obtain ⟨N,hN⟩ := ev_all (p := fun x n=>∀ m,gz n x m = some (mN x m)) q.inputs ih
  refine ⟨N + 1,fun n hn m=>?_⟩
  obtain ⟨n,rfl⟩ : ∃ k,n = k + 1 := ⟨n - 1,by omega⟩
  rw [gz]
  simp only [ku,bE]
  rw [nM (xs := q.exprs) (fun s e=>jm e (IntKind.i64.wrap (s - 1))) (fun _ _ _=>rfl),bPs,bM]
  rw [nM (xs := q.aggregates) (fun s a=>a.args.foldl (fun s e=>jm e (IntKind.i64.wrap (s - 1))) s) (fun k a _=>by
   rw [nM (xs := a.args) (fun s e=>jm e (IntKind.i64.wrap (s - 1))) (fun _ _ _=>rfl),bPs,bM]),bPs,bM]
  rw [sC q.inputs 0 _ (hN n (by omega)),sizeQ_eq]
  rfl
 intro q m
 obtain ⟨N,hN⟩ := key q
 exact qC N fun n hn=>hN n hn m
theorem LExpr.args_lt {e x : LExpr} (h : x ∈ e.args) : SizeOf.sizeOf x < SizeOf.sizeOf e := by
 cases e
 simp only [LExpr.args] at h
 have := List.sizeOf_lt_of_mem h
 simp only [LExpr.mk.sizeOf_spec]
 omega
theorem LExpr.ind {p : LExpr → Prop} (h : ∀ e : LExpr,(∀ x ∈ e.args,p x) → p e) : ∀ e,p e := by
 intro e
 generalize hn : SizeOf.sizeOf e = n
 induction n using Nat.strongRecOn generalizing e with
 | _ n ih=>exact h e fun x hx=>ih _ (hn ▸ LExpr.args_lt hx) x rfl
def jd (e : LExpr) : List (Nat × Int) := if e.kind = 3 ∧ 0 ≤ e.index ∧ e.index < 8 then [(e.index.toNat,e.value.kind)] else []
def cz (e : LExpr) : List (Nat × Int) := jd e ++ (e.args.attach.map fun x=>cz x.1).flatten
termination_by SizeOf.sizeOf e
decreasing_by exact LExpr.args_lt x.2
theorem mG (e : LExpr) : cz e = jd e ++ (e.args.map cz).flatten := by
 rw [cz,List.attach_map_val (f := cz)]
abbrev PSt := List Int × Bool × List Bool
def iJ (out : List Int) (i : Nat) : List Int := out ++ List.replicate (i + 1 - out.length) 0
def eJ (s : PSt) (p : Nat × Int) : PSt :=
 ((iJ s.1 p.1).set p.1 p.2,s.2.1 || (s.2.2.getD p.1 false && (iJ s.1 p.1).getD p.1 0 != p.2),s.2.2.set p.1 true)
def POk (s : PSt) : Prop := s.1.length ≤ 8 ∧ s.2.2.length = 8
theorem og (out : List Int) (i : Nat) : (iJ out i).length = max out.length (i + 1) := by simp [iJ]; omega
theorem pstep_ok {s : PSt} {p : Nat × Int} (h : POk s) (hp : p.1 < 8) : POk (eJ s p) := by
 refine ⟨?_,by simp [eJ,h.2]⟩
 show ((iJ s.1 p.1).set p.1 p.2).length ≤ 8
 rw [List.length_set,og]
 have := h.1
 omega
theorem mR : ∀ e : LExpr,∀ p ∈ cz e,p.1 < 8 := by
 refine LExpr.ind fun e ih p hp=>?_
 rw [mG,List.mem_append] at hp
 rcases hp with hp | hp
 ·unfold jd at hp
  split at hp
  ·rename_i h; simp at hp; subst hp; simp; omega
  ·simp at hp
 ·obtain ⟨l,hl,hp⟩ := List.mem_flatten.1 hp
  obtain ⟨x,hx,rfl⟩ := List.mem_map.1 hl
  exact ih x hx p hp
theorem mj : ∀ {l : List (Nat × Int)} {s : PSt},POk s → (∀ p ∈ l,p.1 < 8) → POk (l.foldl eJ s)
 | [],_,h,_=>h
 | p :: l,s,h,hl=>mj (l := l) (pstep_ok h (hl p (by simp))) fun q hq=>hl q (by simp [hq])
theorem pad_while (i : Nat) (hi : i < 8) : ∀ (n : Nat) (out : List Int),i + 1 - out.length = n → out.length ≤ 8 →
  fG (σ := List Int) (ρ := Empty) (fun (s7 : List Int)=>cond (decide ((s7.length : Int) ≤ (i : Int))) (af (dh 8 s7 ([0] : List Int)) fun (x28 : List Int)=>some (.next x28)) (some (.brk s7))) out = some (.next (iJ out i))
 | 0,out,hn,ho=>by
  refine lO (fl := .brk out) ?_ ?_
  ·have : ¬ ((out.length : Int) ≤ (i : Int)) := by omega
   simp [this]
  ·simp [iJ,hn]
 | n + 1,out,hn,ho=>by
  refine lO (fl := .next (out ++ [0])) ?_ ?_
  ·have : (out.length : Int) ≤ (i : Int) := by omega
   simp only [this,decide_true,zc]
   rw [ce (by decide) (by simp; omega)]
   rfl
  ·have := pad_while i hi n (out ++ [0]) (by simp; omega) (by simp; omega)
   simp only
   rw [this]
   simp only [iJ,List.length_append,List.length_singleton,List.append_assoc,hn]
   rw [show i + 1 - (out.length + 1) = n from by omega,show (List.replicate (n + 1) (0 : Int)) = [0] ++ List.replicate n 0 from rfl]
theorem arrI_at {xs : List Bool} {i : Nat} (h : xs.length = 8) (hi : i < 8) : arrI 8 xs (i : Int) = some (xs.getD i false) := by
 have : xs[i]? = some (xs.getD i false) := by rw [List.getD_eq_getElem?_getD,ze (by omega)]; rfl
 exact arrI_eq (by omega) (by simpa using this)
theorem getI_at {xs : List Int} {i : Nat} (h : i < xs.length) : aJ xs (i : Int) = some (xs.getD i 0) := by
 have : xs[i]? = some (xs.getD i 0) := by rw [List.getD_eq_getElem?_getD,ze h]; rfl
 exact ma this
theorem look_ok : ∀ e : LExpr,∃ N,∀ n,N ≤ n → ∀ s : PSt,POk s → cU n e s.1 s.2.1 s.2.2 = some ((cz e).foldl eJ s) := by
 refine LExpr.ind fun e ih=>?_
 obtain ⟨N,hN⟩ := ev_all (p := fun x n=>∀ s : PSt,POk s → cU n x s.1 s.2.1 s.2.2 = some ((cz x).foldl eJ s)) e.args ih
 refine ⟨N + 1,fun n hn s hs=>?_⟩
 obtain ⟨n,rfl⟩ : ∃ k,n = k + 1 := ⟨n - 1,by omega⟩
 rw [cU]
 simp only [gW]
 have h1 : POk ((jd e).foldl eJ s) := mj hs fun p hp=>mR e p (by rw [mG]; simp [hp])
 have hloop : ∀ s : PSt,POk s → af (aE (σ := List Int × Bool × List Bool) (ρ := Empty) (fun (_ : Nat) (x11 : LExpr) (s11 : List Int × Bool × List Bool) =>
   af (cU n x11 s11.1 s11.2.1 s11.2.2) fun x66=>some (.next (x66.1,x66.2.1,x66.2.2))) 0 e.args (s.1,s.2.1,s.2.2)) (fun fl11=>fl11.thenP fun (s11 : List Int × Bool × List Bool)=>some (s11.1,s11.2.1,s11.2.2)) =
   some (((e.args.map cz).flatten).foldl eJ s) := by
  intro s hs
  rw [rMa (xs := e.args) (s := (s.1,s.2.1,s.2.2)) (fun k=>(((e.args.take k).map cz).flatten).foldl eJ s) rfl (fun k x hk=>by
   have hx := gI hk
   have hok : POk ((((e.args.take k).map cz).flatten).foldl eJ s) := mj hs fun p hp=>by
    obtain ⟨l,hl,hp⟩ := List.mem_flatten.1 hp
    obtain ⟨y,hy,rfl⟩ := List.mem_map.1 hl
    exact mR y p hp
   rw [hN n (by omega) x hx _ hok,bPs,List.take_add_one,hk]
   simp)]
  rw [bPs,bM,List.take_length]
 have key : (af (cond (bp (cond (e.kind == (3 : Int)) (cond (decide (e.index ≥ (0 : Int))) ((decide (e.index < (8 : Int)))) (false)) (false)) fun (t1 : Bool)=>t1)
   (af (fG (σ := List Int) (ρ := Empty) (fun (s7 : List Int)=>cond (decide ((s7.length : Int) ≤ e.index)) (af (dh 8 s7 ([0] : List Int)) fun (x28 : List Int)=>some (.next x28)) (some (.brk s7))) s.1) fun fl7=>fl7.thenP fun (s7 : List Int) =>
   af (cond s.2.1 (some true) (af (arrI 8 s.2.2 e.index) fun (x33 : Bool)=>cond x33 (af (aJ s7 e.index) fun (x39 : Int)=>some (x39 != e.value.kind)) (some false))) fun (t8 : Bool) =>
   af (aJ s7 e.index) fun (_ : Int)=>bp (s7.set e.index.toNat e.value.kind) fun (y9 : List Int)=>af (arrI 8 s.2.2 e.index) fun (_ : Bool)=>bp (s.2.2.set e.index.toNat true) fun (y10 : List Bool)=>some (y9,t8,y10))
   (some (s.1,s.2.1,s.2.2))) fun t=>some t) = some ((jd e).foldl eJ s) := by
  unfold bp
  by_cases hc : e.kind = 3 ∧ 0 ≤ e.index ∧ e.index < 8
  ·obtain ⟨hk,h0,h8⟩ := hc
   obtain ⟨i,hi⟩ : ∃ i : Nat,e.index = i := ⟨e.index.toNat,by omega⟩
   have hi8 : i < 8 := by omega
   have e0 : (e.kind == (3 : Int)) = true := by simpa using hk
   have e1 : decide (e.index ≥ (0 : Int)) = true := zt h0
   have e2 : decide (e.index < (8 : Int)) = true := zt h8
   rw [e0,e1,e2]
   simp only [zc]
   rw [hi,pad_while i hi8 _ s.1 rfl hs.1]
   simp only [bPs,bM]
   have hl : i < (iJ s.1 i).length := by rw [og]; omega
   rw [arrI_at hs.2 hi8,getI_at hl]
   simp only [bPs,Int.toNat_natCast]
   have hh : jd e = [(i,e.value.kind)] := by unfold jd; rw [zp ⟨hk,h0,h8⟩,hi,Int.toNat_natCast]
   rw [hh]
   simp only [List.foldl_cons,List.foldl_nil,eJ]
   cases hb : s.2.1 <;> cases hc : s.2.2.getD i false <;> simp
  ·have hh : jd e = [] := by unfold jd; rw [zy hc]
   rw [hh]
   have e0 : (cond (e.kind == (3 : Int)) (cond (decide (e.index ≥ (0 : Int))) ((decide (e.index < (8 : Int)))) (false)) (false)) = false := by
    by_cases a : e.kind = 3
    ·by_cases b : 0 ≤ e.index
     ·have : ¬ e.index < 8 := fun h=>hc ⟨a,b,h⟩
      simp [this]
     ·have : ¬ e.index ≥ 0 := b
      simp [this]
    ·have : (e.kind == (3 : Int)) = false := by simpa using a
     simp [this]
   rw [e0]
   rfl
 simp only [bE] at key ⊢
 rw [mG,List.foldl_append,← hloop _ h1]
 generalize hg : (cond _ _ _ : Option PSt) = o at key
 cases o with
 | none=>cases key
 | some t =>
  simp only [bPs,zo] at key
  subst key
  rfl
theorem look_eq (e : LExpr) {s : PSt} (h : POk s) : fK e s.1 s.2.1 s.2.2 = some ((cz e).foldl eJ s) := by
 obtain ⟨N,hN⟩ := look_ok e
 exact qC N fun n hn=>hN n hn s h
def jf (x : LQuery) : List (Nat × Int) := (x.exprs.map cz).flatten ++ (x.aggregates.map fun a=>(a.args.map cz).flatten).flatten
def iL (q : LQuery) : List (Nat × Int) := ((cq q).map jf).flatten
theorem oU {x : LQuery} : ∀ p ∈ jf x,p.1 < 8 := by
 intro p hp
 rcases List.mem_append.1 hp with hp | hp
 ·obtain ⟨l,hl,hp⟩ := List.mem_flatten.1 hp
  obtain ⟨e,_,rfl⟩ := List.mem_map.1 hl
  exact mR e p hp
 ·obtain ⟨l,hl,hp⟩ := List.mem_flatten.1 hp
  obtain ⟨a,_,rfl⟩ := List.mem_map.1 hl
  obtain ⟨l,hl,hp⟩ := List.mem_flatten.1 hp
  obtain ⟨e,_,rfl⟩ := List.mem_map.1 hl
  exact mR e p hp
theorem paramsQ_lt {q : LQuery} : ∀ p ∈ iL q,p.1 < 8 := by
 intro p hp
 obtain ⟨l,hl,hp⟩ := List.mem_flatten.1 hp
 obtain ⟨x,_,rfl⟩ := List.mem_map.1 hl
 exact oU p hp
theorem lookAll {l : List LExpr} {s : PSt} (h : POk s) : aE (σ := PSt) (ρ := Empty) (fun (_ : Nat) (x12 : LExpr) (s12 : PSt) =>
   af (fK x12 s12.1 s12.2.1 s12.2.2) fun x33=>some (.next (x33.1,x33.2.1,x33.2.2))) 0 l (s.1,s.2.1,s.2.2) = some (.next (((l.map cz).flatten).foldl eJ s)) := by
 rw [rMa (xs := l) (s := (s.1,s.2.1,s.2.2)) (fun k=>(((l.take k).map cz).flatten).foldl eJ s) rfl (fun k x hk=>by
  have hok : POk ((((l.take k).map cz).flatten).foldl eJ s) := mj h fun p hp=>by
   obtain ⟨m,hm,hp⟩ := List.mem_flatten.1 hp
   obtain ⟨y,hy,rfl⟩ := List.mem_map.1 hm
   exact mR y p hp
  rw [look_eq x hok,bPs,List.take_add_one,hk]
  simp),List.take_length]
def dO (q : LQuery) : PSt := (iL q).foldl eJ ([],false,List.replicate 8 false)
theorem kinds_ok {q : LQuery} (hb : (cq q).length ≤ 10000000) : fp q = some (cond (dO q).2.1 ([],13) ((dO q).1,0)) := by
 unfold fp
 rw [nodes_ok q hb,bPs]
 rw [rMa (xs := cq q) (s := ([],false,List.replicate 8 false)) (fun k=>((((cq q).take k).map jf).flatten).foldl eJ ([],false,List.replicate 8 false)) rfl (fun k x hk=>by
  have hok : POk (((((cq q).take k).map jf).flatten).foldl eJ ([],false,List.replicate 8 false)) := mj ⟨by simp,by simp⟩ fun p hp=>by
   obtain ⟨m,hm,hp⟩ := List.mem_flatten.1 hp
   obtain ⟨y,hy,rfl⟩ := List.mem_map.1 hm
   exact oU p hp
  rw [lookAll hok,bPs,bM]
  rw [show ((((cq q).take (k + 1)).map jf).flatten).foldl eJ ([],false,List.replicate 8 false) = (jf x).foldl eJ (((((cq q).take k).map jf).flatten).foldl eJ ([],false,List.replicate 8 false)) from by
   rw [List.take_add_one,hk]
   simp only [Option.toList_some,List.map_append,List.map_cons,List.map_nil,List.flatten_append,List.flatten_cons,List.flatten_nil,List.append_nil,List.foldl_append]]
  generalize (((((cq q).take k).map jf).flatten).foldl eJ ([],false,List.replicate 8 false)) = s at hok ⊢
  have hok2 : POk (((x.exprs.map cz).flatten).foldl eJ s) := mj hok fun p hp=>oU (x := x) p (by unfold jf; simp only [List.mem_append]; exact .inl hp)
  rw [rMa (xs := x.aggregates) (s := ((((x.exprs.map cz).flatten).foldl eJ s).1,(((x.exprs.map cz).flatten).foldl eJ s).2.1,(((x.exprs.map cz).flatten).foldl eJ s).2.2))
   (fun k=>((((x.aggregates.take k).map fun a=>(a.args.map cz).flatten).flatten).foldl eJ (((x.exprs.map cz).flatten).foldl eJ s))) rfl (fun k a ha=>by
    have hok3 : POk ((((x.aggregates.take k).map fun a=>(a.args.map cz).flatten).flatten).foldl eJ (((x.exprs.map cz).flatten).foldl eJ s)) := mj hok2 fun p hp=>oU (x := x) p (by
     unfold jf
     simp only [List.mem_append]
     obtain ⟨m,hm,hp⟩ := List.mem_flatten.1 hp
     obtain ⟨y,hy,rfl⟩ := List.mem_map.1 hm
     exact .inr (List.mem_flatten.2 ⟨_,List.mem_map.2 ⟨y,List.mem_of_mem_take hy,rfl⟩,hp⟩))
    rw [lookAll hok3,bPs,bM,List.take_add_one,ha]
    simp)]
  rw [bPs,bM,List.take_length]
  unfold jf
  rw [List.foldl_append])]
 rw [bPs,bM,List.take_length]
 show (cond (dO q).2.1 (some ([],13)) (some ((dO q).1,0))) = _
 cases (dO q).2.1 <;> rfl
def pq (l : List (Nat × Int)) : Prop := ∀ i k k',(i,k) ∈ l → (i,k') ∈ l → k = k'
structure PInv (l : List (Nat × Int)) (s : PSt) : Prop where
 ok : POk s
 seen : ∀ i,i < 8 → (s.2.2.getD i false = true ↔ ∃ k,(i,k) ∈ l)
 len : ∀ i k,(i,k) ∈ l → i < s.1.length
 last : s.1.length = 0 ∨ ∃ k,(s.1.length - 1,k) ∈ l
 zero : ∀ i,(∀ k,(i,k) ∉ l) → s.1.getD i 0 = 0
 good : s.2.1 = false → ∀ i k,(i,k) ∈ l → s.1.getD i 0 = k
 bad : pq l → s.2.1 = false
theorem qj (out : List Int) (i j : Nat) : (iJ out i).getD j 0 = out.getD j 0 := by
 simp only [iJ,List.getD_eq_getElem?_getD]
 by_cases h : j < out.length
 ·rw [List.getElem?_append_left h]
 ·rw [List.getElem?_append_right (by omega),List.getElem?_eq_none (l := out) (by omega),List.getElem?_replicate]
  split <;> rfl
theorem PInv.init : PInv [] ([],false,List.replicate 8 false) :=
 ⟨⟨by simp,by simp⟩,fun i hi=>by
  have : (List.replicate 8 false).getD i false = false := by rw [List.getD_eq_getElem?_getD,List.getElem?_replicate]; split <;> rfl
  exact ⟨fun h=>(by rw [show (([],false,List.replicate 8 false) : PSt).2.2 = List.replicate 8 false from rfl,this] at h; cases h),fun ⟨k,hk⟩=>(by simp at hk)⟩,fun i k h=>by simp at h,.inl rfl,fun i _=>by simp,fun _ i k h=>by simp at h,fun _=>rfl⟩
theorem PInv.step {l : List (Nat × Int)} {s : PSt} (h : PInv l s) {p : Nat × Int} (hp : p.1 < 8) : PInv (l ++ [p]) (eJ s p) := by
 obtain ⟨i,k⟩ := p
 simp only at hp
 have hset : ∀ (xs : List Int) (j : Nat) (v : Int),i < xs.length → (xs.set i v).getD j 0 = if j = i then v else xs.getD j 0 := by
  intro xs j v hl
  rw [List.getD_eq_getElem?_getD,List.getD_eq_getElem?_getD,List.getElem?_set]
  by_cases hji : i = j
  ·subst hji; simp [hl]
  ·have : j ≠ i := fun h=>hji h.symm
   simp [hji,this]
 have hl1 : i < (iJ s.1 i).length := by rw [og]; omega
 refine ⟨pstep_ok h.ok hp,fun j hj=>?_,fun j k' hm=>?_,?_,fun j hno=>?_,fun hb j k' hm=>?_,fun hk=>?_⟩
 ·show (s.2.2.set i true).getD j false = true ↔ _
  rw [List.getD_eq_getElem?_getD,List.getElem?_set]
  by_cases hji : i = j
  ·subst hji
   have : i < s.2.2.length := by rw [h.ok.2]; exact hp
   simp [this]
  ·have h1 := h.seen j hj
   rw [List.getD_eq_getElem?_getD] at h1
   have hji' : j ≠ i := fun h=>hji h.symm
   simp only [hji,if_false,h1,List.mem_append,List.mem_singleton,Prod.mk.injEq,hji',false_and,or_false]
 ·show j < ((iJ s.1 i).set i k).length
  rw [List.length_set,og]
  rcases List.mem_append.1 hm with hm | hm
  ·have := h.len j k' hm; omega
  ·simp at hm; omega
 ·show ((iJ s.1 i).set i k).length = 0 ∨ ∃ k',(((iJ s.1 i).set i k).length - 1,k') ∈ l ++ [(i,k)]
  rw [List.length_set,og]
  by_cases hle : s.1.length ≤ i + 1
  ·right
   exact ⟨k,by rw [show max s.1.length (i + 1) - 1 = i from by omega]; simp⟩
  ·rcases h.last with h0 | ⟨k',hk'⟩
   ·omega
   ·right
    exact ⟨k',by rw [show max s.1.length (i + 1) - 1 = s.1.length - 1 from by omega]; simp [hk']⟩
 ·show ((iJ s.1 i).set i k).getD j 0 = 0
  have hji : j ≠ i := fun e=>hno k (by simp [e])
  rw [hset _ _ _ hl1,zy hji,qj]
  exact h.zero j fun k' hm=>hno k' (by simp [hm])
 ·have hb' : s.2.1 = false ∧ (s.2.2.getD i false && (iJ s.1 i).getD i 0 != k) = false := by
   have : (s.2.1 || (s.2.2.getD i false && (iJ s.1 i).getD i 0 != k)) = false := hb
   simpa using this
  show ((iJ s.1 i).set i k).getD j 0 = k'
  rw [hset _ _ _ hl1]
  have hold := h.good hb'.1
  rcases List.mem_append.1 hm with hm1 | hm
  ·by_cases hji : j = i
   ·subst hji
    rw [zp rfl]
    have hs := (h.seen j hp).2 ⟨k',hm1⟩
    have := hb'.2
    rw [hs,qj,hold j k' hm1] at this
    simp at this
    exact this.symm
   ·rw [zy hji,qj]
    exact hold j k' hm1
  ·simp at hm
   rw [zp hm.1,hm.2]
 ·have h1 := h.bad fun i k k' a b=>hk i k k' (by simp [a]) (by simp [b])
  show (s.2.1 || (s.2.2.getD i false && (iJ s.1 i).getD i 0 != k)) = false
  rw [h1,Bool.false_or,qj]
  cases hs : s.2.2.getD i false with
  | false=>rfl
  | true =>
   obtain ⟨k',hk'⟩ := (h.seen i hp).1 hs
   rw [h.good h1 i k' hk',hk i k' k (by simp [hk']) (by simp)]
   simp
theorem PInv.fold : ∀ {r l : List (Nat × Int)} {s : PSt},PInv l s → (∀ p ∈ r,p.1 < 8) → PInv (l ++ r) (r.foldl eJ s)
 | [],l,s,h,_=>by simpa using h
 | p :: r,l,s,h,hr=>by
  have := PInv.fold (r := r) (h.step (hr p (by simp))) fun q hq=>hr q (by simp [hq])
  simpa using this
theorem kinds_inv (q : LQuery) : PInv (iL q) (dO q) := by
 have := PInv.fold (r := iL q) PInv.init paramsQ_lt
 rw [List.nil_append] at this
 exact this
theorem kinds_bad {q : LQuery} : (dO q).2.1 = false ↔ pq (iL q) := by
 have h := kinds_inv q
 refine ⟨fun hb i k k' a b=>?_,h.bad⟩
 rw [← h.good hb i k a,← h.good hb i k' b]
structure ArgsOk (l : List (Nat × Int)) (args : Rq) : Prop where
 kinds : pq l
 args : ∀ i k,(i,k) ∈ l → i < args.length ∧ (∀ j x,j ≤ i → args[j]? = some x → eG x = true) ∧ (∀ x,args[i]? = some x → k = 0 ∨ x.kind = k ∨ x.kind = 0)
theorem ArgsOk.sub {l l' : List (Nat × Int)} {args : Rq} (h : ArgsOk l args) (hs : ∀ p ∈ l',p ∈ l) : ArgsOk l' args :=
 ⟨fun i k k' a b=>h.kinds i k k' (hs _ a) (hs _ b),fun i k a=>h.args i k (hs _ a)⟩
theorem args_ok {q : LQuery} (hb : (cq q).length ≤ 10000000) (args : Rq) : ∃ e,fw q args = some e ∧ (e = 0 ↔ ArgsOk (iL q) args) := by
 unfold fw
 rw [kinds_ok hb,bPs]
 have h := kinds_inv q
 cases hbad : (dO q).2.1 with
 | true =>
  refine ⟨13,by simp,?_⟩
  have : ¬ pq (iL q) := fun hk=>by rw [kinds_bad.2 hk] at hbad; cases hbad
  exact ⟨fun h=>by omega,fun h=>absurd h.kinds this⟩
 | false =>
  simp only [zd]
  have hk := kinds_bad.1 hbad
  by_cases hl : args.length < (dO q).1.length
  ·refine ⟨1,by simp [hl],fun h=>by omega,fun ha=>?_⟩
   rcases h.last with h0 | ⟨k,hm⟩
   ·omega
   ·have := (ha.args _ _ hm).1; omega
  ·have hge : (dO q).1.length ≤ args.length := by omega
   have pm : ∀ k x,(dO q).1[k]? = some x → ∃ y,args[k]? = some y := fun k x hx=>by
    have := (zg.1 hx).1
    exact ⟨args[k],ze (by omega)⟩
   let okAt : Nat → Int → Prop := fun k x=>∀ y,args[k]? = some y → eG y = true ∧ (x = 0 ∨ y.kind = x ∨ y.kind = 0)
   obtain ⟨fl,hfl,hres⟩ := eC (step := fun (j1 : Nat) (x1 : Int) (_ : Unit)=>af (aJ args (j1 : Int)) fun (x31 : LVal)=>bp (eG x31) fun x33=>cond (!x33) (some (Flow.ret (σ := Unit) (7 : Int)))
     (cond (x1 != (0 : Int)) (af (aJ args (j1 : Int)) fun (x41 : LVal)=>cond (x41.kind != x1) (af (aJ args (j1 : Int)) fun (x50 : LVal)=>cond (x50.kind != (0 : Int)) (some (.ret 7)) (some (.next ()))) (some (.next ()))) (some (.next ()))))
    (fun j _=>∀ k x,k < j → (dO q).1[k]? = some x → okAt k x) (fun r=>r = 7 ∧ ∃ k x,(dO q).1[k]? = some x ∧ ¬ okAt k x) (dO q).1 0 () (fun k x hk=>by omega) (fun k x s hk hI=>by
     obtain ⟨y,hy⟩ := pm k x hk
     simp only [Nat.zero_add] at hI ⊢
     rw [ma hy]
     simp only [bPs,bE]
     have next : okAt k x → ∀ k' x',k' < k + 1 → (dO q).1[k']? = some x' → okAt k' x' := fun ho k' x' hk' hx'=>by
      by_cases he : k' = k
      ·subst he; rw [hk] at hx'; cases hx'; exact ho
      ·exact hI k' x' (by omega) hx'
     cases hv : eG y with
     | false=>exact ⟨_,rfl,rfl,k,x,hk,fun ho=>by have := (ho y hy).1; rw [hv] at this; cases this⟩
     | true =>
      simp only [Bool.not_true,zd]
      by_cases hx0 : x = 0
      ·refine ⟨.next (),by simp [hx0],next fun z hz=>?_⟩
       rw [hy] at hz; cases hz; exact ⟨hv,.inl hx0⟩
      ·have e0 : (x != (0 : Int)) = true := by simpa using hx0
       rw [e0,zc]
       by_cases hyx : y.kind = x
       ·refine ⟨.next (),by simp [hyx],next fun z hz=>?_⟩
        rw [hy] at hz; cases hz; exact ⟨hv,.inr (.inl hyx)⟩
       ·have e1 : (y.kind != x) = true := by simpa using hyx
        rw [e1,zc]
        by_cases hy0 : y.kind = 0
        ·refine ⟨.next (),by simp [hy0],next fun z hz=>?_⟩
         rw [hy] at hz; cases hz; exact ⟨hv,.inr (.inr hy0)⟩
        ·have e2 : (y.kind != (0 : Int)) = true := by simpa using hy0
         refine ⟨.ret 7,by simp [e2],rfl,k,x,hk,fun ho=>?_⟩
         rcases (ho y hy).2 with a | a | a
         ·exact hx0 a
         ·exact hyx a
         ·exact hy0 a)
   have e0 : decide ((args.length : Int) < ((dO q).1.length : Int)) = false := zf (by omega)
   simp only [bne_self_eq_false,zd,e0]
   rw [hfl,bPs]
   have hget : ∀ k,k < (dO q).1.length → (dO q).1[k]? = some ((dO q).1.getD k 0) := fun k hk=>by
    rw [List.getD_eq_getElem?_getD,ze hk]; rfl
   cases fl with
   | brk s=>exact absurd hres (by simp)
   | next s =>
    refine ⟨0,rfl,fun _=>⟨hk,fun i k hm=>?_⟩,fun _=>rfl⟩
    have hi := h.len i k hm
    simp only [Nat.zero_add] at hres
    refine ⟨by omega,fun j x hj hx=>?_,fun x hx=>?_⟩
    ·exact ((hres j _ (by omega) (hget j (by omega))) x hx).1
    ·have := ((hres i _ (by omega) (hget i (by omega))) x hx).2
     rwa [h.good hbad i k hm] at this
   | ret r =>
    obtain ⟨rfl,k,x,hx,hno⟩ := hres
    refine ⟨7,rfl,fun h=>by omega,fun ha=>absurd ?_ hno⟩
    intro y hy
    have hkl := (zg.1 hx).1
    rcases h.last with h0 | ⟨k',hm⟩
    ·omega
    ·have hv := (ha.args _ _ hm).2.1 k y (by omega) hy
     refine ⟨hv,?_⟩
     by_cases hex : ∃ k2,(k,k2) ∈ iL q
     ·obtain ⟨k2,hm2⟩ := hex
      have hg := h.good hbad k k2 hm2
      have hxx : x = k2 := by
       rw [hget k hkl] at hx
       rw [← hg]
       exact (Option.some.inj hx).symm
      rw [hxx]
      exact (ha.args k k2 hm2).2.2 y hy
     ·left
      have := h.zero k fun k2 hm2=>hex ⟨k2,hm2⟩
      rw [hget k hkl] at hx
      rw [← this]
      exact (Option.some.inj hx).symm
def Tot {α : Type} (o : Option α) : Prop := ∃ v,o = some v
theorem Tot.mk {α : Type} {v : α} : Tot (Option.some v) := ⟨v,rfl⟩
theorem Tot.bind {α β : Type} {o : Option α} {k : α → Option β} (h : Tot o) (hk : ∀ v,o = some v → Tot (k v)) : Tot (af o k) := by
 obtain ⟨v,hv⟩ := h
 rw [hv]
 exact hk v hv
theorem Tot.cond {α : Type} {b : Bool} {x y : Option α} (hx : b = true → Tot x) (hy : b = false → Tot y) : Tot (cond b x y) := by
 cases b
 ·exact hy rfl
 ·exact hx rfl
theorem Tot.get {α : Type} {xs : List α} {i : Int} (h0 : 0 ≤ i) (h : i < xs.length) : Tot (aJ xs i) := by
 have : i.toNat < xs.length := by omega
 exact ⟨xs[i.toNat],lq h0 (ze this)⟩
theorem Tot.sub {α : Type} {xs : List α} {a b : Int} (h : 0 ≤ a ∧ a ≤ b ∧ b ≤ xs.length) : Tot (oH xs a b) := ⟨_,qI h⟩
theorem Tot.range {α σ ρ : Type} {step : Nat → α → σ → Option (Flow σ ρ)} : ∀ (xs : List α) (j : Nat) (s : σ),(∀ k x s,xs[k]? = some x → Tot (step (j + k) x s)) → Tot (aE step j xs s)
 | [],_,s,_=>⟨.next s,rfl⟩
 | x :: xs,j,s,h=>by
  obtain ⟨fl,hfl⟩ := h 0 x s rfl
  rw [Nat.add_zero] at hfl
  rw [aE,hfl]
  cases fl with
  | next s' =>
   exact Tot.range xs (j + 1) s' fun k y t hk=>by
    have := h (k + 1) y t (by simpa using hk)
    rwa [show j + (k + 1) = j + 1 + k from by omega] at this
  | brk s'=>exact ⟨_,rfl⟩
  | ret r=>exact ⟨_,rfl⟩
theorem Tot.thenR {σ ρ : Type} {fl : Flow σ ρ} {k : σ → Option ρ} (h : ∀ s,(fl = .next s ∨ fl = .brk s) → Tot (k s)) : Tot (fl.thenR k) := by
 cases fl with
 | next s=>exact h s (.inl rfl)
 | brk s=>exact h s (.inr rfl)
 | ret r=>exact ⟨r,rfl⟩
theorem me {a b : Int} (h : a ≠ b) : (a != b) = true := by simpa using h
theorem np {a b : Int} (h : a = b) : (a != b) = false := by simp [h]
theorem cE {a b : Int} (h : a ≠ b) : (a == b) = false := by simpa using h
theorem kx {a b : Int} (h : a = b) : (a == b) = true := by simp [h]
theorem idxF {α : Type} {l : List α} {f : α → Option Bool} {p : α → Bool} (h : ∀ x ∈ l,f x = some (p x)) :
  af (aE (σ := Unit) (ρ := Int) (fun (j1 : Nat) (x1 : α) (_ : Unit)=>af (f x1) fun x16=>cond x16 (some (.ret (j1 : Int))) (some (.next ()))) 0 l ()) (fun fl1=>fl1.thenR fun (_ : Unit)=>some (-1)) = some (aK p l) := by
 rw [lQ p (fun j _=>(j : Int)) l 0 (fun k x hk=>by
  rw [h x (gI hk),bPs]
  cases p x <;> simp)]
 unfold aK
 cases hf : l.findIdx? p with
 | none=>rfl
 | some i =>
  have hi := (List.findIdx?_eq_some_iff_getElem.1 hf).1
  simp only [ze hi]
  simp
theorem idxF2 {α : Type} {l : List α} {p : α → Bool} :
  af (aE (σ := Unit) (ρ := Int) (fun (j1 : Nat) (x1 : α) (_ : Unit)=>cond (p x1) (some (.ret (j1 : Int))) (some (.next ()))) 0 l ()) (fun fl1=>fl1.thenR fun (_ : Unit)=>some (-1)) = some (aK p l) := idxF (f := fun x=>some (p x)) fun _ _=>rfl
theorem idxOf_neg {α : Type} {p : α → Bool} {l : List α} : aK p l = -1 ∨ 0 ≤ aK p l := by
 unfold aK
 cases l.findIdx? p with
 | none=>exact .inl rfl
 | some i=>exact .inr (by simp)
theorem mp {α : Type} {p : α → Bool} {l : List α} (h : 0 ≤ aK p l) : ∃ x,l[(aK p l).toNat]? = some x ∧ p x = true := by
 unfold aK at h ⊢
 cases hf : l.findIdx? p with
 | none=>rw [hf] at h; simp at h
 | some i =>
  obtain ⟨hi,hp,_⟩ := List.findIdx?_eq_some_iff_getElem.1 hf
  exact ⟨l[i],by simp [hi],hp⟩
theorem idx_table (l : List LTable) (p : LTable → Bool) : cC l (fun a=>some (p a)) = some (aK p l) := idxF fun _ _=>rfl
theorem idx_column (l : List LCol) (p : LCol → Bool) : bv l (fun a=>some (p a)) = some (aK p l) := idxF fun _ _=>rfl
theorem pF (s : LSchema) (name : List UInt8) : fL s name = some (dg 0 (aK (fun t=>cN t name) s.tables),decide (aK (fun t=>cN t name) s.tables ≥ 0)) := by
 unfold fL
 rw [idx_table,bPs]
 congr 2
 unfold dg
 split <;> split <;> omega
theorem findColumn_eq (t : LTable) (name : List UInt8) : fZ t name = some (dg 0 (aK (fun c=>dS c name) t.columns),decide (aK (fun c=>dS c name) t.columns ≥ 0)) := by
 unfold fZ
 rw [idx_column,bPs]
 congr 2
 unfold dg
 split <;> split <;> omega
theorem qv {n : Int} (h : 0 ≤ n) : dg 0 n = n := by unfold dg; split <;> omega
theorem sc (s : List UInt8) : Tot (fJ s) := by
 unfold fJ
 refine Tot.bind ?_ fun b hb=>?_
 ·refine Tot.cond (fun _=>Tot.mk) fun h1=>?_
  refine Tot.cond (fun _=>Tot.mk) fun h2=>?_
  have h1 := of_decide_eq_false h1
  refine Tot.bind (Tot.get (by decide) (by omega)) fun x _=>?_
  refine Tot.cond (fun _=>?_) fun _=>Tot.mk
  exact Tot.bind (Tot.get (by decide) (by omega)) fun x _=>Tot.mk
 ·refine Tot.cond (fun _=>Tot.mk) fun h=>?_
  subst h
  have hl : (s.length : Int) ≤ 12 := by
   by_cases h1 : (s.length : Int) < 1
   ·omega
   ·by_cases h2 : (s.length : Int) > 12
    ·rw [zf h1,zt h2] at hb; simp at hb
    ·omega
  refine Tot.bind ⟨(),cO (by omega)⟩ fun _ _=>?_
  refine Tot.bind (Tot.range _ _ _ fun k x _ _=>?_) fun fl _=>Tot.thenR fun _ _=>Tot.mk
  repeat' first | exact Tot.mk | refine Tot.cond (fun _=>?_) (fun _=>?_)
structure TableOk (t : LTable) : Prop where
 pk : ∀ x ∈ t.primaryKey,0 ≤ x ∧ x < t.columns.length
theorem validTable (t : LTable) (hsm : t.primaryKey.length ≤ 10000000) : ∃ e,ft t = some e ∧ (e = 0 → TableOk t) := by
 unfold ft
 obtain ⟨b,hb⟩ := sc t.name
 rw [hb,bPs]
 cases b with
 | false=>exact ⟨23,rfl,fun h=>by omega⟩
 | true =>
  simp only [Bool.not_true,zd]
  by_cases h0 : (t.columns.length : Int) = 0
  ·exact ⟨3,by simp [h0],fun h=>by omega⟩
  by_cases h6 : (t.columns.length : Int) > 6
  ·have : ((t.columns.length : Int) == 0) = false := by simpa using h0
   exact ⟨2,by rw [this]; simp [h6],fun h=>by omega⟩
  have e0 : ((t.columns.length : Int) == 0) = false := by simpa using h0
  rw [e0,zf h6]
  simp only [zd]
  obtain ⟨fl,hfl,hr⟩ := eC (step := fun (j1 : Nat) (x1 : LCol) (_ : Unit) =>
    af (fJ x1.name) fun x31=>cond (!x31) (some (Flow.ret (σ := Unit) (23 : Int)))
     (af (fZ t x1.name) fun x37=>cond (decide (x37.1 < (j1 : Int))) (some (.ret 5)) (cond (decide (x1.kind < (1 : Int))) (some (.ret 7)) (cond (decide (x1.kind > (3 : Int))) (some (.ret 7)) (some (.next ())))))) (fun _ _=>True) (fun r=>r ≠ 0) t.columns 0 () trivial (fun k x s hk _=>by
    obtain ⟨b,hb⟩ := sc x.name
    rw [hb,bPs,findColumn_eq,bPs]
    cases b with
    | false=>exact ⟨_,rfl,by simp⟩
    | true =>
     simp only [Bool.not_true,zd]
     by_cases a1 : dg 0 (aK (fun c=>dS c x.name) t.columns) < ((0 + k : Nat) : Int)
     ·exact ⟨.ret 5,by rw [zt a1]; rfl,by simp⟩
     ·rw [zf a1]
      by_cases a2 : x.kind < 1
      ·exact ⟨.ret 7,by rw [zt a2]; rfl,by simp⟩
      ·rw [zf a2]
       by_cases a3 : x.kind > 3
       ·exact ⟨.ret 7,by rw [zt a3]; rfl,by simp⟩
       ·exact ⟨.next (),by rw [zf a3]; rfl,trivial⟩)
  rw [hfl,bPs]
  cases fl with
  | brk s=>exact absurd hr (by simp)
  | ret r=>exact ⟨r,rfl,fun h=>absurd h hr⟩
  | next s =>
   rw [jb]
   obtain ⟨fl,hfl,hr⟩ := eC (step := fun (j2 : Nat) (x2 : Int) (_ : Unit) =>
     cond (decide (x2 < (0 : Int))) (some (Flow.ret (σ := Unit) (9 : Int))) (cond (decide (x2 ≥ (t.columns.length : Int))) (some (.ret 9))
      (af (aJ t.columns x2) fun (x73 : LCol)=>cond x73.nullable (some (.ret 9)) (cond (decide ((j2 : Int) > (0 : Int)))
       (af (aJ t.primaryKey (IntKind.i64.wrap ((j2 : Int) - (1 : Int)))) fun (x86 : Int)=>cond (decide (x2 ≤ x86)) (some (.ret 9)) (some (.next ()))) (some (.next ())))))) (fun j _=>∀ k x,k < j → t.primaryKey[k]? = some x → 0 ≤ x ∧ x < t.columns.length) (fun r=>r ≠ 0) t.primaryKey 0 () (fun k x h=>by omega) (fun k x s hk hI=>by
     simp only [Nat.zero_add] at hI ⊢
     by_cases a1 : x < 0
     ·exact ⟨.ret 9,by rw [zt a1]; rfl,by simp⟩
     rw [zf a1]
     by_cases a2 : x ≥ (t.columns.length : Int)
     ·exact ⟨.ret 9,by rw [zt a2]; rfl,by simp⟩
     rw [zf a2]
     simp only [zd]
     obtain ⟨c,hc⟩ := Tot.get (xs := t.columns) (i := x) (by omega) (by omega)
     rw [hc,bPs]
     have next : ∀ k' x',k' < k + 1 → t.primaryKey[k']? = some x' → 0 ≤ x' ∧ x' < t.columns.length := fun k' x' h1 h2=>by
      by_cases he : k' = k
      ·subst he; rw [hk] at h2; cases h2; omega
      ·exact hI k' x' (by omega) h2
     cases c.nullable with
     | true=>exact ⟨_,rfl,by simp⟩
     | false =>
      simp only [zd]
      by_cases a3 : (k : Int) > 0
      ·rw [zt a3]
       have hkl := (zg.1 hk).1
       rw [bq (by omega) (by omega)]
       obtain ⟨y,hy⟩ := Tot.get (xs := t.primaryKey) (i := (k : Int) - 1) (by omega) (by omega)
       rw [zc,hy,bPs]
       by_cases a4 : x ≤ y
       ·exact ⟨.ret 9,by rw [zt a4]; rfl,by simp⟩
       ·exact ⟨.next (),by rw [zf a4]; rfl,next⟩
      ·exact ⟨.next (),by rw [zf a3]; rfl,next⟩)
   rw [hfl,bPs]
   cases fl with
   | brk s=>exact absurd hr (by simp)
   | ret r=>exact ⟨r,rfl,fun h=>absurd h hr⟩
   | next s =>
    rw [jb]
    simp only [Nat.zero_add] at hr
    by_cases hp : (t.primaryKey.length : Int) = 0
    ·exact ⟨9,by simp [hp],fun h=>by omega⟩
    ·have : ((t.primaryKey.length : Int) == 0) = false := by simpa using hp
     refine ⟨0,by rw [this]; rfl,fun _=>⟨fun x hx=>?_⟩⟩
     obtain ⟨k,hk,rfl⟩ := List.mem_iff_getElem.1 hx
     exact hr k _ hk (ze hk)
theorem hO {α : Type} {xs : List α} {k : Nat} (h : k < xs.length) : aJ xs (k : Int) = some xs[k] := ma (ze h)
theorem foreignKey_tot {s : LSchema} (hs : ∀ t ∈ s.tables,TableOk t) (fk : LForeignKey) : Tot (eM s fk) := by
 unfold eM
 rw [pF,pF]
 simp only [bPs,bE]
 generalize hi : aK (fun t=>cN t fk.table) s.tables = i
 generalize hj : aK (fun t=>cN t fk.refTable) s.tables = j
 by_cases h1 : i ≥ 0
 ·by_cases h2 : j ≥ 0
  ·rw [zt h1,zt h2]
   simp only [Bool.not_true,zd]
   rw [qv h1,qv h2]
   obtain ⟨t,ht,_⟩ := mp (hi ▸ h1)
   obtain ⟨u,hu,_⟩ := mp (hj ▸ h2)
   rw [hi] at ht
   rw [hj] at hu
   rw [lq h1 ht,lq h2 hu]
   simp only [bPs]
   refine Tot.cond (fun _=>Tot.mk) fun hl=>?_
   have hl : fk.columns.length = u.primaryKey.length := by
    by_cases h : (fk.columns.length : Int) = (u.primaryKey.length : Int)
    ·omega
    ·simp [h] at hl
   refine Tot.bind (Tot.range _ _ _ fun k x st hk=>?_) fun fl _=>Tot.thenR fun _ _=>Tot.mk
   have hkl := (zg.1 hk).1
   by_cases a1 : x < 0
   ·rw [zt a1]; exact Tot.mk
   ·rw [zf a1]
    by_cases a2 : x ≥ (t.columns.length : Int)
    ·rw [zt a2]; exact Tot.mk
    ·rw [zf a2]
     simp only [zd]
     obtain ⟨c,hc⟩ := Tot.get (xs := t.columns) (i := x) (by omega) (by omega)
     rw [hc,bPs,Nat.zero_add,hO (by omega),bPs]
     have hp := (hs u (gI hu)).pk u.primaryKey[k] (List.getElem_mem _)
     obtain ⟨d,hd⟩ := Tot.get (xs := u.columns) (i := u.primaryKey[k]) hp.1 hp.2
     rw [hd,bPs]
     exact Tot.cond (fun _=>Tot.mk) fun _=>Tot.mk
  ·rw [zf h2]
   simp only [Bool.not_false]
   cases decide (i ≥ 0) <;> exact Tot.mk
 ·rw [zf h1]
  exact Tot.mk
theorem constraint_tot (s : LSchema) (c : LConstraint) : Tot (eP s c) := by
 unfold eP
 rw [pF]
 simp only [bPs,bE]
 generalize hi : aK (fun t=>cN t c.table) s.tables = i
 by_cases h1 : i ≥ 0
 ·rw [zt h1]
  simp only [Bool.not_true,zd]
  rw [qv h1]
  obtain ⟨t,ht,_⟩ := mp (hi ▸ h1)
  rw [hi] at ht
  rw [lq h1 ht,bPs]
  refine Tot.cond (fun _=>Tot.mk) fun hl=>?_
  by_cases a1 : c.left < 0
  ·rw [zt a1] at hl; cases hl
  rw [zf a1,zd] at hl
  by_cases a2 : c.left ≥ (t.columns.length : Int)
  ·rw [zt a2] at hl; cases hl
  rw [zf a2,zd] at hl
  obtain ⟨x,hx⟩ := Tot.get (xs := t.columns) (i := c.left) (by omega) (by omega)
  rw [hx]
  refine Tot.cond (fun a3=>?_) fun _=>?_
  ·have a3 := of_decide_eq_true a3
   have a4 : c.right < (t.columns.length : Int) := by
    rcases Int.lt_or_le c.right (t.columns.length : Int) with h | h
    ·exact h
    ·have e : decide (c.right ≥ (t.columns.length : Int)) = true := zt h
     rw [e] at hl
     revert hl
     cases ((hM (LVal.mk 0 0 []) c.op (LVal.mk 0 0 [])).2 != 0) <;> cases decide (c.right < -1) <;> simp
   obtain ⟨y,hy⟩ := Tot.get (xs := t.columns) (i := c.right) a3 a4
   rw [hy]
   simp only [bPs]
   exact Tot.cond (fun _=>Tot.mk) fun _=>Tot.mk
  ·rw [bPs]
   exact Tot.cond (fun _=>Tot.mk) fun _=>Tot.mk
 ·rw [zf h1]
  exact Tot.mk
theorem equalInts_tot (a b : List Int) : Tot (fT a b) := by
 unfold fT
 refine Tot.cond (fun _=>Tot.mk) fun h=>?_
 have h : a.length = b.length := by
  by_cases h' : (a.length : Int) = (b.length : Int)
  ·omega
  ·simp [h'] at h
 refine Tot.bind (Tot.range _ _ _ fun k x s hk=>?_) fun fl _=>Tot.thenR fun _ _=>Tot.mk
 have hkl := (zg.1 hk).1
 rw [Nat.zero_add,hO (by omega),bPs]
 exact Tot.cond (fun _=>Tot.mk) fun _=>Tot.mk
theorem fkIn_tot (l : List LForeignKey) (x : LForeignKey) : Tot (bN l (fun a0=>gg a0 x)) := by
 unfold bN cy
 refine Tot.bind (Tot.bind (Tot.range _ _ _ fun k y s hk=>?_) fun fl _=>Tot.thenR fun _ _=>Tot.mk) fun _ _=>Tot.mk
 refine Tot.bind ?_ fun _ _=>Tot.cond (fun _=>Tot.mk) fun _=>Tot.mk
 unfold gg
 refine Tot.bind ?_ fun _ _=>Tot.mk
 unfold gM
 refine Tot.cond (fun _=>Tot.bind (equalInts_tot _ _) fun _ _=>Tot.cond (fun _=>Tot.mk) fun _=>Tot.mk) fun _=>Tot.mk
theorem csIn_tot (l : List LConstraint) (x : LConstraint) : Tot (bS l x) := by
 unfold bS cJ
 refine Tot.bind (Tot.bind (Tot.range _ _ _ fun k y s hk=>?_) fun fl _=>Tot.thenR fun _ _=>Tot.mk) fun _ _=>Tot.mk
 exact Tot.cond (fun _=>Tot.mk) fun _=>Tot.mk
def ot (s : LSchema) : Prop := ∀ t ∈ s.tables,t.primaryKey.length ≤ 10000000
theorem validate_tot {s : LSchema} (hsm : ot s) : Tot (iT s) := by
 unfold iT
 rw [bE]
 refine Tot.cond (fun _=>Tot.mk) fun ht=>?_
 have h6 : s.tables.length ≤ 6 := by
  by_cases h : (s.tables.length : Int) > 6
  ·rw [zt h] at ht; cases ht
  ·omega
 obtain ⟨fl,hfl,hr⟩ := eC (step := fun (j2 : Nat) (x2 : LTable) (_ : Unit) =>
   af (ft x2) fun x37=>cond (x37 != (0 : Int)) (some (Flow.ret (σ := Unit) x37)) (cond (decide ((j2 : Int) > (0 : Int)))
     (af (aJ s.tables (IntKind.i64.wrap ((j2 : Int) - (1 : Int)))) fun (x50 : LTable)=>cond (Op.bytesLess x2.name x50.name || x2.name == x50.name) (some (.ret 6)) (some (.next ()))) (some (.next ())))) (fun j _=>∀ k x,k < j → s.tables[k]? = some x → TableOk x) (fun _=>True) s.tables 0 () (fun k x h=>by omega) (fun k x st hk hI=>by
    simp only [Nat.zero_add] at hI ⊢
    obtain ⟨e,he,hok⟩ := validTable x (hsm x (gI hk))
    rw [he,bPs]
    by_cases h0 : e = 0
    ·have next : ∀ k' x',k' < k + 1 → s.tables[k']? = some x' → TableOk x' := fun k' x' h1 h2=>by
      by_cases heq : k' = k
      ·subst heq; rw [hk] at h2; cases h2; exact hok h0
      ·exact hI k' x' (by omega) h2
     rw [show (e != (0 : Int)) = false from by simp [h0],zd]
     by_cases a3 : (k : Int) > 0
     ·have hkl := (zg.1 hk).1
      rw [zt a3,bq (by omega) (by omega)]
      obtain ⟨y,hy⟩ := Tot.get (xs := s.tables) (i := (k : Int) - 1) (by omega) (by omega)
      rw [zc,hy,bPs]
      cases (Op.bytesLess x.name y.name || x.name == y.name) with
      | true=>exact ⟨.ret 6,rfl,trivial⟩
      | false=>exact ⟨.next (),rfl,next⟩
     ·exact ⟨.next (),by rw [zf a3]; rfl,next⟩
    ·exact ⟨.ret e,by rw [show (e != (0 : Int)) = true from by simp [h0]]; rfl,trivial⟩)
 rw [hfl,bPs]
 cases fl with
 | brk s=>exact absurd hr (by simp)
 | ret r=>exact Tot.mk
 | next u =>
  rw [jb]
  simp only [Nat.zero_add] at hr
  have hok : ∀ t ∈ s.tables,TableOk t := fun t ht=>by
   obtain ⟨k,hk,rfl⟩ := List.mem_iff_getElem.1 ht
   exact hr k _ hk (ze hk)
  refine Tot.bind (Tot.range _ _ _ fun k x st hk=>?_) fun fl _=>Tot.thenR fun _ _=>?_
  ·refine Tot.bind (foreignKey_tot hok x) fun e _=>Tot.cond (fun _=>Tot.mk) fun _=>?_
   have hkl := (zg.1 hk).1
   refine Tot.bind (Tot.sub ⟨by omega,by omega,by omega⟩) fun l _=>?_
   exact Tot.bind (fkIn_tot l x) fun _ _=>Tot.cond (fun _=>Tot.mk) fun _=>Tot.mk
  ·refine Tot.bind (Tot.range _ _ _ fun k x st hk=>?_) fun fl _=>Tot.thenR fun _ _=>Tot.mk
   refine Tot.bind (constraint_tot s x) fun e _=>Tot.cond (fun _=>Tot.mk) fun _=>?_
   have hkl := (zg.1 hk).1
   refine Tot.bind (Tot.sub ⟨by omega,by omega,by omega⟩) fun l _=>?_
   exact Tot.bind (csIn_tot l x) fun _ _=>Tot.cond (fun _=>Tot.mk) fun _=>Tot.mk
def dY (cols : List LCol) (row : Rq) : Prop := row.length = cols.length ∧ ∀ (i : Nat) (c : LCol) (x : LVal),cols[i]? = some c → row[i]? = some x → fC x c.kind c.nullable
theorem validate_valid {v : LVal} (h : dl v = 0) : eG v = true := by
 obtain ⟨k,n,t⟩ := v
 unfold dl bp at h
 unfold eG
 by_cases k0 : k = 0
 ·subst k0
  by_cases hn : n = 0
  ·subst hn
   cases t with
   | nil=>rfl
   | cons c t=>simp at h
  ·simp [me hn] at h
 ·have e0 : (k == (0 : Int)) = false := by simpa using k0
  simp only [e0,zd] at h
  by_cases k1 : k = 1
  ·subst k1
   cases t with
   | cons c t=>simp at h
   | nil =>
    by_cases a : n < -1000000000000
    ·simp [a] at h
    ·by_cases b : n > 1000000000000
     ·simp [a,b] at h
     ·simp; omega
  ·by_cases k2 : k = 2
   ·subst k2
    cases t with
    | cons c t=>simp at h
    | nil =>
     by_cases a : n = 0
     ·simp [a]
     ·by_cases b : n = 1
      ·simp [b]
      ·simp [me a,me b] at h
   ·by_cases k3 : k = 3
    ·subst k3
     by_cases a : n = 0
     ·subst a
      by_cases b : (t.length : Int) > 24
      ·simp [b] at h
      ·simp; omega
     ·simp [me a] at h
    ·have e1 : (k == (1 : Int)) = false := by simpa using k1
     have e2 : (k == (2 : Int)) = false := by simpa using k2
     have e3 : (k == (3 : Int)) = false := by simpa using k3
     simp [e1,e2,e3] at h
theorem conformsRow (t : LTable) (row : Rq) : ∃ e,er t row = some e ∧ (e = 0 → dY t.columns row) := by
 unfold er
 by_cases hl : (row.length : Int) = (t.columns.length : Int)
 ·have hl' : row.length = t.columns.length := by omega
  rw [show ((row.length : Int) != (t.columns.length : Int)) = false from by simp [hl],zd]
  obtain ⟨fl,hfl,hr⟩ := eC (step := fun (j1 : Nat) (x1 : LVal) (_ : Unit)=>bp (dl x1) fun x22=>cond (x22 != (0 : Int)) (some (Flow.ret (σ := Unit) x22))
    (af (cond (x1.kind == (0 : Int)) (af (aJ t.columns (j1 : Int)) fun (x33 : LCol)=>some (!x33.nullable)) (some false)) fun (t3 : Bool)=>cond t3 (some (.ret 8))
     (cond (x1.kind != (0 : Int)) (af (aJ t.columns (j1 : Int)) fun (x47 : LCol)=>cond (x1.kind != x47.kind) (some (.ret 7)) (some (.next ()))) (some (.next ())))))
   (fun j _=>∀ (k : Nat) (c : LCol) (x : LVal),k < j → t.columns[k]? = some c → row[k]? = some x → fC x c.kind c.nullable) (fun r=>r ≠ 0) row 0 () (fun k c x h=>by omega) (fun k x st hk hI=>by
    simp only [Nat.zero_add] at hI ⊢
    have hkl := (zg.1 hk).1
    rw [bE,hO (xs := t.columns) (by omega)]
    by_cases hv : dl x = 0
    ·rw [show (dl x != (0 : Int)) = false from by simp [hv],zd]
     have hvv := validate_valid hv
     have next : fC x t.columns[k].kind t.columns[k].nullable → ∀ (k' : Nat) (c : LCol) (x' : LVal),k' < k + 1 → t.columns[k']? = some c → row[k']? = some x' → fC x' c.kind c.nullable := fun hf k' c x' h1 h2 h3=>by
      by_cases heq : k' = k
      ·subst heq
       rw [hk] at h3
       rw [ze (by omega)] at h2
       cases h2
       cases h3
       exact hf
      ·exact hI k' c x' (by omega) h2 h3
     by_cases hx : x.kind = 0
     ·rw [show (x.kind == (0 : Int)) = true from by simp [hx],zc,bPs,bPs]
      cases hn : t.columns[k].nullable with
      | false=>exact ⟨.ret 8,rfl,by simp⟩
      | true=>exact ⟨.next (),by simp [hx],next ⟨hvv,.inr hx,fun _=>hn⟩⟩
     ·rw [show (x.kind == (0 : Int)) = false from by simp [hx],zd,bPs,zd,show (x.kind != (0 : Int)) = true from by simp [hx],zc,bPs]
      by_cases hk' : x.kind = t.columns[k].kind
      ·exact ⟨.next (),by rw [np hk']; rfl,next ⟨hvv,.inl hk',fun h=>absurd h hx⟩⟩
      ·exact ⟨.ret 7,by rw [me hk']; rfl,by simp⟩
    ·exact ⟨.ret (dl x),by rw [show (dl x != (0 : Int)) = true from by simp [hv]]; rfl,hv⟩)
  rw [hfl,bPs]
  cases fl with
  | brk s=>exact absurd hr (by simp)
  | ret r=>exact ⟨r,rfl,fun h=>absurd h hr⟩
  | next s =>
   simp only [Nat.zero_add] at hr
   exact ⟨0,rfl,fun _=>⟨hl',fun i c x hc hx=>hr i c x (zg.1 hx).1 hc hx⟩⟩
 ·exact ⟨3,by rw [show ((row.length : Int) != (t.columns.length : Int)) = true from by simp [hl]]; rfl,fun h=>by omega⟩
theorem key_tot (t : LTable) (row : Rq) (hsm : t.primaryKey.length ≤ 10000000) : ∃ k,cX t row = some k ∧ k.length = t.primaryKey.length := by
 unfold cX
 obtain ⟨fl,hfl,hr⟩ := eC (step := fun (_ : Nat) (x1 : Int) (s1 : Rq) =>
  bp (cond (decide (x1 ≥ (0 : Int))) ((decide (x1 < (row.length : Int)))) (false)) fun (t6 : Bool) =>
  af (cond t6 (af (aJ row x1) fun (x27 : LVal)=>some x27) (some (LVal.mk 0 0 []))) fun (t7 : LVal) =>
  af (dh 32 s1 ([t7] : Rq)) fun (x32 : Rq)=>some (Flow.next (ρ := Empty) x32)) (fun j s=>s.length = j) (fun _=>False) t.primaryKey 0 ([] : Rq) rfl (fun k x s hk hI=>by
   have hI : s.length = k := by simpa using hI
   have hkl := (zg.1 hk).1
   rw [bE]
   have ht : ∃ v,(cond (cond (decide (x ≥ (0 : Int))) ((decide (x < (row.length : Int)))) (false)) (af (aJ row x) fun (x27 : LVal)=>some x27) (some (LVal.mk 0 0 []))) = some v := by
    refine Tot.cond (fun h=>?_) fun _=>Tot.mk
    by_cases h0 : x ≥ 0
    ·rw [zt h0] at h
     exact Tot.bind (Tot.get h0 (of_decide_eq_true h)) fun _ _=>Tot.mk
    ·rw [zf h0] at h; cases h
   obtain ⟨v,hv⟩ := ht
   rw [hv,bPs,ce (by decide) (by simp; omega),bPs]
   exact ⟨_,rfl,by simp [hI]⟩)
 rw [hfl,bPs]
 cases fl with
 | brk s=>exact absurd hr (by simp)
 | ret r=>exact r.elim
 | next s=>exact ⟨s,rfl,by simpa using hr⟩
theorem uy (a b : Rq) (ha : a.length ≤ 10000000) : Tot (dJ a b) := by
 unfold dJ
 have hm : ∃ n : Nat,(if (b.length : Int) < (a.length : Int) then (b.length : Int) else (a.length : Int)) = (n : Int) ∧ n ≤ a.length ∧ n ≤ b.length := by
  split
  ·exact ⟨b.length,rfl,by omega,by omega⟩
  ·exact ⟨a.length,rfl,by omega,by omega⟩
 obtain ⟨n,hn,h1,h2⟩ := hm
 rw [hn,qc (by omega),bPs]
 refine Tot.bind (Tot.range _ _ _ fun k x s hk=>?_) fun fl _=>Tot.thenR fun _ _=>Tot.mk
 have hkl := (zg.1 hk).1
 simp at hkl
 rw [Nat.zero_add,hO (by omega),hO (by omega)]
 simp only [bPs,bE]
 exact Tot.cond (fun _=>Tot.mk) fun _=>Tot.mk
def KeyOrd (t : LTable) (rows : Rz) : Prop := ∀ (i : Nat) (p row : Rq),rows[i]? = some p → rows[i + 1]? = some row → ∃ k1 k2 z,cX t p = some k1 ∧ cX t row = some k2 ∧ dJ k1 k2 = some z ∧ z < 0
structure InstOk (s : LSchema) (st : List LRelation) : Prop where
 len : st.length = s.tables.length
 ord : ∀ (i : Nat) (r : LRelation) (t : LTable),st[i]? = some r → s.tables[i]? = some t → KeyOrd t r.rows
 tab : ∀ (i : Nat) (r : LRelation) (t : LTable),st[i]? = some r → s.tables[i]? = some t → r.table = t.name ∧ r.rows.length ≤ 24 ∧ ∀ row ∈ r.rows,dY t.columns row
theorem conforms {s : LSchema} (hsm : ot s) (st : List LRelation) : ∃ e,fy s st = some e ∧ (e = 0 → InstOk s st) := by
 unfold fy
 by_cases hl : (st.length : Int) = (s.tables.length : Int)
 ·have hl' : st.length = s.tables.length := by omega
  rw [show ((st.length : Int) != (s.tables.length : Int)) = false from by simp [hl],zd]
  let good : LRelation → LTable → Prop := fun r t=>(r.table = t.name ∧ r.rows.length ≤ 24 ∧ ∀ row ∈ r.rows,dY t.columns row) ∧ KeyOrd t r.rows
  obtain ⟨fl,hfl,hr⟩ := eC (step := fun (j1 : Nat) (x1 : LRelation) (_ : Unit) =>
   af (aJ s.tables (j1 : Int)) fun (x28 : LTable) =>
   cond (!(x1.table == x28.name)) (some (Flow.ret (σ := Unit) (3 : Int))) (cond (decide ((x1.rows.length : Int) > (24 : Int))) (some (.ret 2))
     (af (aE (σ := Unit) (ρ := (Int)) (fun (j3 : Nat) (x3 : Rq) (_ : Unit) =>
      af (er x28 x3) fun x49=>cond (x49 != (0 : Int)) (some (.ret x49)) (cond ((j3 : Int) == (0 : Int)) (some (.next ()))
        (af (aJ x1.rows (IntKind.i64.wrap ((j3 : Int) - (1 : Int)))) fun (x60 : Rq)=>af (cX x28 x60) fun x62=>af (cX x28 x3) fun x65=>af (dJ x62 x65) fun x66 =>
        cond (x66 == (0 : Int)) (some (.ret 9)) (cond (decide (x66 > (0 : Int))) (some (.ret 6)) (some (.next ())))))) 0 x1.rows ()) fun fl3=>fl3.thenF fun (_ : Unit)=>some (.next ()))))
   (fun j _=>∀ (k : Nat) (r : LRelation) (t : LTable),k < j → st[k]? = some r → s.tables[k]? = some t → good r t) (fun r=>r ≠ 0) st 0 () (fun k r t h=>by omega) (fun k r u hk hI=>by
    simp only [Nat.zero_add] at hI ⊢
    have hkl := (zg.1 hk).1
    have hkt : k < s.tables.length := by omega
    rw [hO hkt,bPs]
    by_cases hn : r.table = s.tables[k].name
    ·rw [show (!(r.table == s.tables[k].name)) = false from by simp [hn],zd]
     by_cases h24 : (r.rows.length : Int) > 24
     ·exact ⟨.ret 2,by rw [zt h24]; rfl,by simp⟩
     ·rw [zf h24,zd]
      have hsk := hsm s.tables[k] (List.getElem_mem _)
      obtain ⟨fl,hfl,hr⟩ := eC (step := fun (j3 : Nat) (x3 : Rq) (_ : Unit) =>
       af (er s.tables[k] x3) fun x49=>cond (x49 != (0 : Int)) (some (Flow.ret (σ := Unit) x49)) (cond ((j3 : Int) == (0 : Int)) (some (.next ()))
        (af (aJ r.rows (IntKind.i64.wrap ((j3 : Int) - (1 : Int)))) fun (x60 : Rq)=>af (cX s.tables[k] x60) fun x62=>af (cX s.tables[k] x3) fun x65=>af (dJ x62 x65) fun x66 =>
        cond (x66 == (0 : Int)) (some (.ret 9)) (cond (decide (x66 > (0 : Int))) (some (.ret 6)) (some (.next ())))))) (fun j _=>(∀ i row,i < j → r.rows[i]? = some row → dY s.tables[k].columns row) ∧ ∀ (i : Nat) (p row : Rq),i + 1 < j → r.rows[i]? = some p → r.rows[i + 1]? = some row → ∃ k1 k2 z,cX s.tables[k] p = some k1 ∧ cX s.tables[k] row = some k2 ∧ dJ k1 k2 = some z ∧ z < 0) (fun r=>r ≠ 0) r.rows 0 () ⟨fun i row h=>by omega,fun i p row h=>by omega⟩ (fun i row u hi hI2=>by
        simp only [Nat.zero_add] at hI2 ⊢
        have hil := (zg.1 hi).1
        obtain ⟨e,he,hok⟩ := conformsRow s.tables[k] row
        rw [he,bPs]
        by_cases h0 : e = 0
        ·rw [show (e != (0 : Int)) = false from by simp [h0],zd]
         have next : ∀ i' row',i' < i + 1 → r.rows[i']? = some row' → dY s.tables[k].columns row' := fun i' row' h1 h2=>by
          by_cases heq : i' = i
          ·subst heq; rw [hi] at h2; cases h2; exact hok h0
          ·exact hI2.1 i' row' (by omega) h2
         by_cases hi0 : i = 0
         ·exact ⟨.next (),by simp [hi0],next,fun i' p row' h1=>by omega⟩
         ·rw [show ((i : Int) == (0 : Int)) = false from by simp; omega,zd,bq (by omega) (by omega)]
          obtain ⟨p,hp⟩ := Tot.get (xs := r.rows) (i := (i : Int) - 1) (by omega) (by omega)
          obtain ⟨k1,hk1,hl1⟩ := key_tot s.tables[k] p hsk
          obtain ⟨k2,hk2,_⟩ := key_tot s.tables[k] row hsk
          obtain ⟨z,hz⟩ := uy k1 k2 (by omega)
          rw [hp,bPs,hk1,bPs,hk2,bPs,hz,bPs]
          by_cases z0 : z = 0
          ·exact ⟨.ret 9,by rw [kx z0]; rfl,by simp⟩
          ·by_cases z1 : z > 0
           ·exact ⟨.ret 6,by rw [cE z0,zt z1]; rfl,by simp⟩
           ·refine ⟨.next (),by rw [cE z0,zf z1]; rfl,next,fun i' p' row' h1 h2 h3=>?_⟩
            by_cases heq : i' + 1 = i
            ·subst heq
             rw [hi] at h3
             cases h3
             have hp' := (gIs hp).2
             rw [show (((i' + 1 : Nat) : Int) - 1).toNat = i' from by omega,h2] at hp'
             cases hp'
             exact ⟨k1,k2,z,hk1,hk2,hz,by omega⟩
            ·exact hI2.2 i' p' row' (by omega) h2 h3
        ·exact ⟨.ret e,by rw [show (e != (0 : Int)) = true from by simp [h0]]; rfl,h0⟩)
      rw [hfl,bPs]
      cases fl with
      | brk s=>exact absurd hr (by simp)
      | ret e=>exact ⟨.ret e,rfl,hr⟩
      | next s' =>
       simp only [Nat.zero_add] at hr
       refine ⟨.next (),rfl,fun k' r' t' h1 h2 h3=>?_⟩
       by_cases heq : k' = k
       ·subst heq
        rw [hk] at h2
        rw [ze hkt] at h3
        cases h2
        cases h3
        refine ⟨⟨hn,by omega,fun row hrow=>?_⟩,fun i p row h2 h3=>hr.2 i p row (zg.1 h3).1 h2 h3⟩
        obtain ⟨i,hi,rfl⟩ := List.mem_iff_getElem.1 hrow
        exact hr.1 i _ hi (ze hi)
       ·exact hI k' r' t' (by omega) h2 h3
    ·exact ⟨.ret 3,by rw [show (!(r.table == s.tables[k].name)) = true from by simp [hn]]; rfl,by simp⟩)
  rw [hfl,bPs]
  cases fl with
  | brk s=>exact absurd hr (by simp)
  | ret r=>exact ⟨r,rfl,fun h=>absurd h hr⟩
  | next u =>
   simp only [Nat.zero_add] at hr
   exact ⟨0,rfl,fun _=>⟨hl',fun i r t h1 h2=>(hr i r t (zg.1 h1).1 h1 h2).2,fun i r t h1 h2=>(hr i r t (zg.1 h1).1 h1 h2).1⟩⟩
 ·exact ⟨3,by rw [show ((st.length : Int) != (s.tables.length : Int)) = true from by simp [hl]]; rfl,fun h=>by omega⟩
theorem containsI (l : List Int) (v : Int) : fe l v = some (l.any fun x=>v == x) := by
 unfold fe ic
 rw [idxF2 (p := fun x=>v == x),bPs,iz]
theorem shape1 (l : List Int) (q : LQuery) : cZ l q = some (l.any fun x=>q.kind == x) := by
 unfold cZ
 rw [containsI,bPs]
def pN (k : Int) : Nat := if k = 1 then 0 else if k = 4 ∨ k = 5 ∨ k = 6 ∨ k = 7 then 2 else 1
def lG (q : LQuery) : Bool :=
 decide (1 ≤ q.kind) && decide (q.kind ≤ 10) && decide (q.inputs.length = pN q.kind) && (q.kind == 1 || q.table == []) && (q.kind == 3 || q.kind == 8 || decide (q.names.length = 0)) &&
 (q.kind == 8 || decide (q.aggregates.length = 0)) && (q.kind == 9 || decide (q.descending.length = 0)) && (q.kind == 10 || (q.count == 0 && q.offset == 0)) &&
 (if q.kind = 2 ∨ q.kind = 4 ∨ q.kind = 5 then decide (q.exprs.length = 1)
  else if q.kind = 3 ∨ q.kind = 8 then decide (q.exprs.length = q.names.length) && decide (0 < q.exprs.length + q.aggregates.length)
  else if q.kind = 9 then decide (q.exprs.length = q.descending.length) && decide (0 < q.exprs.length)
  else if q.kind = 10 then decide (q.exprs.length = 0) && decide (q.count ≥ 0) && decide (q.offset ≥ 0)
  else decide (q.exprs.length = 0))
theorem natE (a b : Nat) : ((a : Int) == (b : Int)) = decide (a = b) := by
 by_cases h : a = b
 ·simp [h]
 ·rw [zf h]; exact cE (by omega)
theorem pl (a b : Nat) : ((a : Int) != (b : Int)) = !decide (a = b) := by rw [bne,natE]
theorem natPos (a : Nat) : decide ((a : Int) > 0) = !decide (a = 0) := by
 by_cases h : a = 0
 ·simp [h]
 ·rw [zf h,zt (by omega)]; rfl
theorem condSome {α : Type} (b : Bool) (x y : α) : (cond b (some x) (some y)) = some (cond b x y) := by cases b <;> rfl
theorem shape_eq (q : LQuery) (hs : q.exprs.length ≤ 10000000 ∧ q.aggregates.length ≤ 10000000) : kD q = some (lG q) := by
 unfold kD
 simp only [shape1,bPs]
 by_cases k0 : q.kind < 1
 ·rw [zt k0]
  simp [lG,show ¬ (1 ≤ q.kind) from by omega]
 rw [zf k0]
 by_cases k10 : q.kind > 10
 ·rw [zt k10]
  simp [lG,show ¬ (q.kind ≤ 10) from by omega]
 rw [zf k10]
 have hw : IntKind.i64.wrap ((q.exprs.length : Int) + (q.aggregates.length : Int)) = ((q.exprs.length + q.aggregates.length : Nat) : Int) := by rw [bq (by omega) (by omega)]; simp
 rw [hw]
 have hk : q.kind = 1 ∨ q.kind = 2 ∨ q.kind = 3 ∨ q.kind = 4 ∨ q.kind = 5 ∨ q.kind = 6 ∨ q.kind = 7 ∨ q.kind = 8 ∨ q.kind = 9 ∨ q.kind = 10 := by omega
 unfold lG
 have e0 : ∀ n : Nat,((n : Int) == 0) = decide (n = 0) := fun n=>natE n 0
 have e1 : ∀ n : Nat,((n : Int) == 1) = decide (n = 1) := fun n=>natE n 1
 have n0 : ∀ n : Nat,((n : Int) != 0) = !decide (n = 0) := fun n=>pl n 0
 have n1 : ∀ n : Nat,((n : Int) != 1) = !decide (n = 1) := fun n=>pl n 1
 have n2 : ∀ n : Nat,((n : Int) != 2) = !decide (n = 2) := fun n=>pl n 2
 have c0 : (q.count != 0) = !(q.count == 0) := rfl
 have o0 : (q.offset != 0) = !(q.offset == 0) := rfl
 have p0 : decide (0 < q.exprs.length) = !decide (q.exprs.length = 0) := by rw [← natPos]; simp
 have p1 : decide (0 < q.exprs.length + q.aggregates.length) = !decide (q.exprs.length + q.aggregates.length = 0) := by rw [← natPos]; simp; omega
 simp only [natPos,natE,e0,e1,c0,o0,p0,p1]
 generalize (q.table == []) = b1
 generalize decide (q.names.length = 0) = b2
 generalize decide (q.aggregates.length = 0) = b3
 generalize decide (q.descending.length = 0) = b4
 generalize (q.count == 0) = b5
 generalize (q.offset == 0) = b6
 generalize decide (q.exprs.length = 1) = b7
 generalize decide (q.exprs.length = q.names.length) = b8
 generalize decide (q.exprs.length + q.aggregates.length = 0) = b9
 generalize decide (q.exprs.length = q.descending.length) = b10
 generalize decide (q.exprs.length = 0) = b11
 generalize decide (q.count ≥ 0) = b12
 generalize decide (q.offset ≥ 0) = b13
 generalize hL : q.inputs.length = L
 rcases hk with h | h | h | h | h | h | h | h | h | h <;> rw [h]
 all_goals simp only [pN,aJ]
 all_goals simp [n0,n1,n2,condSome,Bool.and_assoc]
def e0Q (q : LQuery) : LExpr := q.exprs.headD (.mk 1 [] 0 .nul [])
def iq (a b : List LCol) (left : Bool) : List LCol := a ++ b.map fun x=>⟨x.name,x.kind,x.nullable || left⟩
def kM (kind : Int) (a b : List LCol) : List LCol × Int :=
 if a.length = b.length ∧ a.map LCol.kind = b.map LCol.kind then (List.zipWith (fun x y=>⟨x.name,x.kind,x.nullable || (kind == 6 && y.nullable)⟩) a b,0) else ([],7)
def ck (vars cols : List LCol) : List LExpr → List (List UInt8) → List LCol × Int
 | e :: es,n :: ns=>if db n = false then ([],3) else if (cI cols vars e).2.2 ≠ 0 then ([],(cI cols vars e).2.2) else if (cI cols vars e).1 = 0 then ([],7)
  else if (ck vars cols es ns).2 ≠ 0 then ([],(ck vars cols es ns).2) else (⟨n,(cI cols vars e).1,(cI cols vars e).2.1⟩ :: (ck vars cols es ns).1,0)
 | _,_=>([],0)
abbrev il : List UInt8 := [99,111,117,110,116]
abbrev sSum : List UInt8 := [115,117,109]
abbrev sMin : List UInt8 := [109,105,110]
abbrev sMax : List UInt8 := [109,97,120]
def oD (vars cols : List LCol) (a : LAggregateCall) : Int × Int :=
 if db a.name = false ∨ ¬ a.function ∈ [il,sSum,sMin,sMax] ∨ 1 < a.args.length ∨ (a.args.length < 1 ∧ a.function ≠ il) then (0,3)
 else match a.args with
  | []=>(1,0)
  | e :: _=>if (cI cols vars e).2.2 ≠ 0 then (0,(cI cols vars e).2.2) else if (cI cols vars e).1 = 0 ∨ (a.function = sSum ∧ (cI cols vars e).1 ≠ 1) then (0,7)
   else if a.function = il then (1,0) else ((cI cols vars e).1,0)
def dM (vars cols : List LCol) : List LAggregateCall → List LCol × Int
 | []=>([],0)
 | a :: l=>if (oD vars cols a).2 ≠ 0 then ([],(oD vars cols a).2) else if (dM vars cols l).2 ≠ 0 then ([],(dM vars cols l).2)
  else (⟨a.name,(oD vars cols a).1,!(a.function == il)⟩ :: (dM vars cols l).1,0)
def my (vars cols : List LCol) (q : LQuery) : List LCol × Int :=
 if (ck vars cols q.exprs q.names).2 ≠ 0 then ([],(ck vars cols q.exprs q.names).2)
 else if (dM vars cols q.aggregates).2 ≠ 0 then ([],(dM vars cols q.aggregates).2)
 else ((ck vars cols q.exprs q.names).1 ++ (dM vars cols q.aggregates).1,0)
def jG (vars cols : List LCol) : List LExpr → Int
 | []=>0
 | e :: l=>if (cI cols vars e).2.2 ≠ 0 then (cI cols vars e).2.2 else jG vars cols l
def iD (c : LChecker) (q : LQuery) (ins : List (List LCol)) : List LCol × Int :=
 if q.kind = 1 then (match c.s.tables.find? fun t=>t.name == q.table with | some t=>(t.columns,0) | none=>([],4))
 else if q.kind = 2 then (ins.getD 0 [],du c (ins.getD 0 []) (e0Q q))
 else if q.kind = 4 ∨ q.kind = 5 then (iq (ins.getD 0 []) (ins.getD 1 []) (q.kind == 5),du c (iq (ins.getD 0 []) (ins.getD 1 []) (q.kind == 5)) (e0Q q))
 else if q.kind = 6 ∨ q.kind = 7 then kM q.kind (ins.getD 0 []) (ins.getD 1 [])
 else if q.kind = 3 ∨ q.kind = 8 then my c.vars (ins.getD 0 []) q
 else if q.kind = 9 then (if jG c.vars (ins.getD 0 []) q.exprs ≠ 0 then ([],jG c.vars (ins.getD 0 []) q.exprs) else (ins.getD 0 [],0))
 else (ins.getD 0 [],0)
theorem find_idx {α : Type} (p : α → Bool) (l : List α) : (l.find? p = none ∧ aK p l = -1) ∨ ∃ x,l.find? p = some x ∧ 0 ≤ aK p l ∧ l[(aK p l).toNat]? = some x := by
 induction l with
 | nil=>exact .inl ⟨rfl,rfl⟩
 | cons a l ih =>
  by_cases h : p a = true
  ·right
   exact ⟨a,by simp [h],by unfold aK; simp [List.findIdx?_cons,h],by unfold aK; simp [List.findIdx?_cons,h]⟩
  ·have h : p a = false := by simpa using h
   have hi : aK p (a :: l) = if aK p l < 0 then -1 else aK p l + 1 := by
    unfold aK
    simp only [List.findIdx?_cons,h,Bool.false_eq_true,if_false]
    cases l.findIdx? p with
    | none=>rfl
    | some i=>rw [zy (by simp only; omega)]; simp
   rw [List.find?_cons,h,hi]
   rcases ih with ⟨h1,h2⟩ | ⟨x,h1,h2,h3⟩
   ·left; exact ⟨h1,by rw [h2]; rfl⟩
   ·right
    refine ⟨x,h1,by split <;> omega,?_⟩
    rw [zy (by omega),show (aK p l + 1).toNat = (aK p l).toNat + 1 from by omega,List.getElem?_cons_succ,h3]
theorem set_ok (kind : Int) (a b : List LCol) : iE kind a b = some (kM kind a b) := by
 unfold iE kM
 by_cases hl : a.length = b.length
 ·rw [pl,zt hl]
  simp only [Bool.not_true,zd]
  let z : LCol → LCol → LCol := fun x y=>⟨x.name,x.kind,x.nullable || (kind == 6 && y.nullable)⟩
  obtain ⟨fl,hfl,hr⟩ := eC (step := fun (j1 : Nat) (x1 : LCol) (s1 : List LCol) =>
   af (aJ b (j1 : Int)) fun (x29 : LCol)=>cond (x1.kind != x29.kind) (some (Flow.ret (([],7) : List LCol × Int)))
    (cond x1.nullable (af (aJ s1 (j1 : Int)) fun (x51 : LCol)=>bp (s1.set ((j1 : Int).toNat) (LCol.mk x51.name x51.kind true)) fun (y8 : List LCol)=>some (.next y8))
     (cond (kind == (6 : Int)) (af (aJ b (j1 : Int)) fun (x46 : LCol)=>af (aJ s1 (j1 : Int)) fun (x51 : LCol)=>bp (s1.set ((j1 : Int).toNat) (LCol.mk x51.name x51.kind x46.nullable)) fun (y9 : List LCol)=>some (.next y9))
      (af (aJ s1 (j1 : Int)) fun (x51 : LCol)=>bp (s1.set ((j1 : Int).toNat) (LCol.mk x51.name x51.kind false)) fun (y10 : List LCol)=>some (.next y10)))))
   (fun j s=>s = (List.zipWith z a b).take j ++ a.drop j ∧ (a.take j).map LCol.kind = (b.take j).map LCol.kind) (fun r=>r = ([],7) ∧ a.map LCol.kind ≠ b.map LCol.kind) a 0 a ⟨by simp,rfl⟩ (fun k x s hk hI=>by
    simp only [Nat.zero_add] at hI ⊢
    have hka := (zg.1 hk).1
    have hxe := (zg.1 hk).2
    have hkb : k < b.length := by omega
    rw [hO hkb,bPs,bPs]
    by_cases hkk : x.kind = b[k].kind
    ·have hzl : ((List.zipWith z a b).take k).length = k := by simp; omega
     have hs : s[k]? = some x := by
      rw [hI.1,List.getElem?_append_right (by omega),hzl,Nat.sub_self,List.getElem?_drop,Nat.add_zero,hk]
     have hkinds : (a.take (k + 1)).map LCol.kind = (b.take (k + 1)).map LCol.kind := by
      rw [List.take_add_one,List.take_add_one,hk,ze hkb,List.map_append,List.map_append,hI.2]
      congr 1
      show [x.kind] = [b[k].kind]
      rw [hkk]
     have hset : ∀ v : LCol,v = z x b[k] → s.set k v = (List.zipWith z a b).take (k + 1) ++ a.drop (k + 1) := by
      intro v hv
      rw [hI.1,List.set_append_right _ _ (by omega),hzl,Nat.sub_self]
      rw [List.drop_eq_getElem_cons hka,List.set_cons_zero,List.take_add_one,List.append_assoc]
      congr 1
      rw [List.getElem?_zipWith,hk,ze hkb]
      simp [hv]
     rw [np hkk,zd,ma hs]
     simp only [bPs,bE,Int.toNat_natCast]
     cases hx : x.nullable with
     | true=>exact ⟨_,rfl,hset _ (by simp [z,hx]),hkinds⟩
     | false =>
      by_cases h6 : kind = 6
      ·exact ⟨.next _,by rw [kx h6]; rfl,hset _ (by simp [z,hx,h6]),hkinds⟩
      ·exact ⟨.next _,by rw [cE h6]; rfl,hset _ (by simp [z,hx,h6]),hkinds⟩
    ·refine ⟨.ret ([],7),by rw [me hkk]; rfl,rfl,fun he=>hkk ?_⟩
     have := congrArg (fun l=>l[k]?) he
     simp only [List.getElem?_map,hk,ze hkb,Option.map_some,zo] at this
     exact this)
  rw [hfl,bPs]
  cases fl with
  | brk s=>exact absurd hr (by simp)
  | ret r=>rw [hr.1,zy (fun h=>hr.2 h.2)]; rfl
  | next s =>
   simp only [Nat.zero_add] at hr
   rw [jb,hr.1,zp ⟨hl,by have := hr.2; rwa [List.take_length,hl,List.take_length] at this⟩]
   have : (List.zipWith z a b).take a.length = List.zipWith z a b := List.take_of_length_le (by simp; omega)
   rw [this,List.drop_length,List.append_nil]
 ·rw [pl,zf hl,zy (fun h=>hl h.1)]
  rfl
theorem oV {α : Type} {l : List α} {d : α} (h : 0 < l.length) : aJ l 0 = some (l.getD 0 d) := by
 cases l with
 | nil=>simp at h
 | cons a l=>rfl
theorem getD1 {α : Type} {l : List α} {d : α} (h : 1 < l.length) : aJ l 1 = some (l.getD 1 d) := by
 match l with
 | []=>simp at h
 | [_]=>simp at h
 | a :: b :: l=>rfl
theorem e0_get {q : LQuery} (h : 0 < q.exprs.length) : aJ q.exprs 0 = some (e0Q q) := by
 unfold e0Q
 cases hq : q.exprs with
 | nil=>rw [hq] at h; simp at h
 | cons a l=>rfl
theorem containsS (l : List (List UInt8)) (v : List UInt8) : dF l v = some (decide (v ∈ l)) := by
 unfold dF fF
 rw [idxF2 (p := fun x=>v == x),bPs,iz]
 congr 1
 by_cases h : v ∈ l
 ·rw [zt h,List.any_eq_true]; exact ⟨v,h,by simp⟩
 ·rw [zf h,List.any_eq_false]
  intro x hx he
  exact h (by simp at he; rwa [he])
theorem agg_eq (c : LChecker) (cols : List LCol) (a : LAggregateCall) : gc c cols a = some (oD c.vars cols a) := by
 unfold gc oD
 simp only [bE,containsS,bPs]
 by_cases h1 : db a.name = false
 ·simp [h1]
 have h1' : db a.name = true := by simpa using h1
 by_cases h2 : a.function ∈ [il,sSum,sMin,sMax]
 ·rw [zt (show a.function ∈ ([[99,111,117,110,116],[115,117,109],[109,105,110],[109,97,120]] : List (List UInt8)) from h2)]
  cases ha : a.args with
  | nil =>
   by_cases h3 : a.function = il
   ·simp [h1',h3]
   ·have h3' : (a.function == ([99,111,117,110,116] : List UInt8)) = false := by simpa using h3
    simp [h1',h3,h2,h3']
  | cons e l =>
   cases l with
   | cons e2 l =>
    have : (1 : Int) < (l.length : Int) + 1 + 1 := by omega
    simp [h1',h2,this]
   | nil =>
    simp only [h1',Bool.not_true,zd,List.length_singleton]
    have hno : ¬ (True = False ∨ ¬ a.function ∈ [il,sSum,sMin,sMax] ∨ 1 < 1 ∨ (1 < 1 ∧ a.function ≠ il)) := by simp [h2]
    simp only [aJ]
    by_cases h4 : (cI cols c.vars e).2.2 = 0
    ·by_cases h5 : (cI cols c.vars e).1 = 0
     ·simp [h2,h4,h5]
     ·by_cases h6 : a.function = sSum
      ·by_cases h7 : (cI cols c.vars e).1 = 1
       ·simp [h4,h6,h7]
       ·simp [h4,h5,h6,h7,me h7]
      ·have h6' : (a.function == ([115,117,109] : List UInt8)) = false := by simpa using h6
       by_cases h8 : a.function = il
       ·simp [h4,h5,h8,cE h5]
       ·have h8' : (a.function == ([99,111,117,110,116] : List UInt8)) = false := by simpa using h8
        simp [h2,h4,h5,h6,h8,h6',h8',cE h5]
    ·simp [h2,h4,me h4]
 ·rw [zf (show ¬ a.function ∈ ([[99,111,117,110,116],[115,117,109],[109,105,110],[109,97,120]] : List (List UInt8)) from h2)]
  simp [h1',h2]
theorem namedE_run (vars cols : List LCol) (names : List (List UInt8)) : ∀ (es : List LExpr) (j : Nat) (s : List LCol),es.length + j = names.length → s.length + es.length ≤ 10000000 →
  ∀ k : List LCol → Option (List LCol × Int),af (aE (σ := List LCol) (ρ := ((List LCol) × Int)) (fun (j1 : Nat) (x1 : LExpr) (s1 : List LCol) =>
  bp (cI cols vars x1) fun x31 =>
  af (aJ names (j1 : Int)) fun (x39 : List UInt8) =>
  bp (db x39) fun x41 =>
  cond (!x41)
   (some (.ret ([],3)))
   (cond (x31.2.2 != (0 : Int))
    (some (.ret ([],x31.2.2)))
    (cond (x31.1 == (0 : Int))
     (some (.ret ([],7)))
     (af (aJ names (j1 : Int)) fun (x54 : List UInt8) =>
     af (dh 32 s1 ([(LCol.mk x54 x31.1 x31.2.1)] : List LCol)) fun (x60 : List LCol) =>
     some (.next x60))))) j es s) (fun fl1=>fl1.thenR k) = if (ck vars cols es (names.drop j)).2 ≠ 0 then some ([],(ck vars cols es (names.drop j)).2) else k (s ++ (ck vars cols es (names.drop j)).1)
 | [],j,s,_,_,k=>by simp [aE,ck]
 | e :: es,j,s,hl,hb,k=>by
  have hj : j < names.length := by simp at hl; omega
  rw [aE,List.drop_eq_getElem_cons hj,ck,bE,hO hj,bPs,bE]
  cases h1 : db names[j] with
  | false=>simp
  | true =>
   simp only [Bool.not_true,zd,Bool.true_eq_false,if_false]
   by_cases h2 : (cI cols vars e).2.2 = 0
   ·rw [np h2,zd]
    simp only [h2,ne_eq,not_true_eq_false,if_false]
    by_cases h3 : (cI cols vars e).1 = 0
    ·rw [kx h3]; simp [h3]
    ·rw [cE h3,zd,bPs,ce (by decide) (by simp at hb ⊢; omega),bPs]
     simp only [h3,if_false]
     rw [namedE_run vars cols names es (j + 1) _ (by simp at hl; omega) (by simp at hb ⊢; omega) k]
     by_cases h4 : (ck vars cols es (names.drop (j + 1))).2 = 0
     ·simp [h4]
     ·simp [h4]
   ·rw [me h2]
    simp [h2]
theorem namedA_run (c : LChecker) (cols : List LCol) : ∀ (l : List LAggregateCall) (j : Nat) (s : List LCol),s.length + l.length ≤ 10000000 →
  af (aE (σ := List LCol) (ρ := ((List LCol) × Int)) (fun (_ : Nat) (x2 : LAggregateCall) (s2 : List LCol) =>
  af (gc c cols x2) fun x73 =>
  cond (x73.2 != (0 : Int))
   (some (.ret ([],x73.2)))
   (af (dh 32 s2 ([(LCol.mk x2.name x73.1 (!(x2.function == ([99,111,117,110,116] : List UInt8))))] : List LCol)) fun (x88 : List LCol) =>
   some (.next x88))) j l s) (fun fl2=>fl2.thenR fun (s2 : List LCol)=>some (s2,0)) = some (if (dM c.vars cols l).2 ≠ 0 then ([],(dM c.vars cols l).2) else (s ++ (dM c.vars cols l).1,0))
 | [],j,s,_=>by simp [aE,dM]
 | a :: l,j,s,hb=>by
  rw [aE,dM,agg_eq,bPs]
  by_cases h1 : (oD c.vars cols a).2 = 0
  ·rw [np h1,zd,ce (by decide) (by simp at hb ⊢; omega),bPs]
   simp only [h1,ne_eq,not_true_eq_false,if_false]
   rw [namedA_run c cols l (j + 1) _ (by simp at hb ⊢; omega)]
   by_cases h4 : (dM c.vars cols l).2 = 0
   ·simp [h4]
   ·simp [h4]
  ·rw [me h1]
   simp [h1]
theorem named_eq (c : LChecker) (q : LQuery) (cols : List LCol) (hl : q.exprs.length = q.names.length) (hb : q.exprs.length ≤ 1000000 ∧ q.aggregates.length ≤ 1000000) : eD c q cols = some (my c.vars cols q) := by
 unfold eD my
 rw [namedE_run c.vars cols q.names q.exprs 0 [] (by omega) (by simp; omega),List.drop_zero]
 by_cases h : (ck c.vars cols q.exprs q.names).2 = 0
 ·have hlen : ∀ (es : List LExpr) (ns : List (List UInt8)),(ck c.vars cols es ns).1.length ≤ es.length := by
   intro es
   induction es with
   | nil=>intro ns; simp [ck]
   | cons e es ih =>
    intro ns
    cases ns with
    | nil=>simp [ck]
    | cons n ns =>
     simp only [ck]
     split
     ·simp
     ·split
      ·simp
      ·split
       ·simp
       ·split
        ·simp
        ·have := ih ns; simp; omega
  simp only [h,ne_eq,not_true_eq_false,if_false,List.nil_append]
  rw [namedA_run c cols q.aggregates 0 _ (by have := hlen q.exprs q.names; omega)]
 ·simp [h]
structure SmallQ (q : LQuery) : Prop where
 nodes : (cq q).length ≤ 10000000
 here : ∀ x ∈ cq q,x.exprs.length ≤ 1000000 ∧ x.aggregates.length ≤ 1000000
theorem mem_nodes {q x y : LQuery} (h : x ∈ q.inputs) (hy : y ∈ cq x) : y ∈ cq q := by
 rw [je]
 exact List.mem_cons_of_mem _ (List.mem_flatten.2 ⟨_,List.mem_map.2 ⟨x,h,rfl⟩,hy⟩)
theorem rg (q : LQuery) : q ∈ cq q := by rw [je]; exact List.mem_cons_self
theorem SmallQ.sub {q x : LQuery} (h : SmallQ q) (hx : x ∈ q.inputs) : SmallQ x :=
 ⟨by have := lA hx; have := h.nodes; omega,fun y hy=>h.here y (mem_nodes hx hy)⟩
theorem SmallQ.self {q : LQuery} (h : SmallQ q) : q.exprs.length ≤ 1000000 ∧ q.aggregates.length ≤ 1000000 := h.here q (rg q)
structure ShapeOk (q : LQuery) : Prop where
 kind : 1 ≤ q.kind ∧ q.kind ≤ 10
 arity : q.inputs.length = pN q.kind
 one : q.kind = 2 ∨ q.kind = 4 ∨ q.kind = 5 → q.exprs.length = 1
 named : q.kind = 3 ∨ q.kind = 8 → q.exprs.length = q.names.length
 aggs : q.kind ≠ 8 → q.aggregates = []
 sorted : q.kind = 9 → q.exprs.length = q.descending.length
 limit : q.kind = 10 → 0 ≤ q.count ∧ 0 ≤ q.offset
theorem shape_ok {q : LQuery} (h : lG q = true) : ShapeOk q := by
 unfold lG at h
 simp only [Bool.and_eq_true,decide_eq_true_eq] at h
 obtain ⟨⟨⟨⟨⟨⟨⟨⟨h1,h2⟩,h3⟩,h4⟩,h5⟩,h6⟩,h7⟩,h8⟩,h9⟩ := h
 refine ⟨⟨h1,h2⟩,h3,fun hk=>?_,fun hk=>?_,fun hk=>?_,fun hk=>?_,fun hk=>?_⟩
 ·rw [zp hk] at h9; simpa using h9
 ·rw [zy (by omega),zp hk] at h9; simp at h9; exact h9.1
 ·have : (q.kind == 8) = false := cE hk
  rw [this] at h6; simp at h6; exact h6
 ·rw [zy (by omega),zy (by omega),zp hk] at h9; simp at h9; exact h9.1
 ·rw [zy (by omega),zy (by omega),zy (by omega),zp hk] at h9; simp at h9; omega
theorem join_run (left : Bool) : ∀ (b : List LCol) (j : Nat) (a : List LCol),a.length + b.length ≤ 10000000 →
  aE (σ := List LCol) (ρ := Empty) (fun (_ : Nat) (x2 : LCol) (s2 : List LCol)=>cond x2.nullable
          (af (dh 32 s2 ([(LCol.mk x2.name x2.kind true)] : List LCol)) fun (x76 : List LCol)=>some (.next x76))
          (af (dh 32 s2 ([(LCol.mk x2.name x2.kind left)] : List LCol)) fun (x76 : List LCol)=>some (.next x76))) j b a = some (.next (iq a b left))
 | [],j,a,_=>by simp [aE,iq]
 | x :: b,j,a,h=>by
  have step : (cond x.nullable (af (dh 32 a ([(LCol.mk x.name x.kind true)] : List LCol)) fun (x76 : List LCol)=>some (Flow.next (ρ := Empty) x76))
    (af (dh 32 a ([(LCol.mk x.name x.kind left)] : List LCol)) fun (x76 : List LCol)=>some (.next x76))) = some (.next (a ++ [⟨x.name,x.kind,x.nullable || left⟩])) := by
   rw [ce (by decide) (by simp at h ⊢; omega),ce (by decide) (by simp at h ⊢; omega)]
   cases x.nullable <;> simp
  rw [aE,step]
  simp only
  rw [join_run left b (j + 1) _ (by simp at h ⊢; omega)]
  simp [iq]
theorem sort_run (vars cols : List LCol) (ins : List (List LCol)) (h0 : aJ ins 0 = some cols) : ∀ (es : List LExpr) (j : Nat) (k : Unit → Option (List LCol × Int)),
  af (aE (σ := Unit) (ρ := ((List LCol) × Int)) (fun (_ : Nat) (x5 : LExpr) (_ : Unit)=>af (aJ ins 0) fun (x122 : List LCol)=>bp (cI x122 vars x5) fun x127=>cond (x127.2.2 != (0 : Int)) (some (.ret ([],x127.2.2))) (some (.next ()))) j es ()) (fun fl5=>fl5.thenR k) =
   if jG vars cols es ≠ 0 then some ([],jG vars cols es) else k ()
 | [],j,k=>by simp [aE,jG]
 | e :: es,j,k=>by
  rw [aE,jG,h0,bPs,bE]
  by_cases h : (cI cols vars e).2.2 = 0
  ·rw [np h,zd]
   simp only [h,ne_eq,not_true_eq_false,if_false]
   rw [← h0]
   exact sort_run vars cols ins h0 es (j + 1) k
  ·rw [me h]; simp [h]
theorem out_eq {c : LChecker} {q : LQuery} {ins : List (List LCol)} (hs : ShapeOk q) (hsm : SmallQ q) (hl : ins.length = q.inputs.length) (hb : ∀ l ∈ ins,l.length ≤ 20) : ik c q ins = some (iD c q ins) := by
 obtain ⟨hk,ha,h1,hn,_,_,_⟩ := hs
 have hself := hsm.self
 have hi : ∀ i,i < ins.length → (ins.getD i []).length ≤ 20 := fun i hi=>by
  rw [List.getD_eq_getElem?_getD,ze hi]
  exact hb _ (List.getElem_mem hi)
 have e0 : q.exprs.length = 1 → aJ q.exprs 0 = some (e0Q q) := fun h=>e0_get (by omega)
 unfold ik iD
 have kk : q.kind = 1 ∨ q.kind = 2 ∨ q.kind = 3 ∨ q.kind = 4 ∨ q.kind = 5 ∨ q.kind = 6 ∨ q.kind = 7 ∨ q.kind = 8 ∨ q.kind = 9 ∨ q.kind = 10 := by omega
 rcases kk with h | h | h | h | h | h | h | h | h | h
 ·rw [h,idx_table]
  simp only [bPs]
  rcases find_idx (fun a0=>eH a0 q) c.s.tables with ⟨f1,f2⟩ | ⟨t,f1,f2,f3⟩
  ·have f1' : c.s.tables.find? (fun t=>t.name == q.table) = none := f1
   rw [f2,f1']
   rfl
  ·have f1' : c.s.tables.find? (fun t=>t.name == q.table) = some t := f1
   rw [f1',zf (show ¬ aK (fun a0=>eH a0 q) c.s.tables < 0 from by omega),lq f2 f3]
   rfl
 all_goals rw [h] at ha
 all_goals simp only [pN] at ha
 ·have g0 : aJ ins 0 = some (ins.getD 0 []) := oV (by simp at ha; omega)
  rw [h,g0,e0 (h1 (.inl h))]
  simp [bE]
 ·have g0 : aJ ins 0 = some (ins.getD 0 []) := oV (by simp at ha; omega)
  rw [h,g0]
  simp only [bPs]
  rw [named_eq c q _ (hn (.inl h)) hself]
  simp [bE]
 ·have g0 : aJ ins 0 = some (ins.getD 0 []) := oV (by simp at ha; omega)
  have g1 : aJ ins 1 = some (ins.getD 1 []) := getD1 (by simp at ha; omega)
  rw [h,g0,g1,e0 (h1 (.inr (.inl h)))]
  simp only [bPs]
  rw [join_run ((4 : Int) == 5) _ 0 _ (by have := hi 0 (by simp at ha; omega); have := hi 1 (by simp at ha; omega); omega)]
  simp [bE]
 ·have g0 : aJ ins 0 = some (ins.getD 0 []) := oV (by simp at ha; omega)
  have g1 : aJ ins 1 = some (ins.getD 1 []) := getD1 (by simp at ha; omega)
  rw [h,g0,g1,e0 (h1 (.inr (.inr h)))]
  simp only [bPs]
  rw [join_run ((5 : Int) == 5) _ 0 _ (by have := hi 0 (by simp at ha; omega); have := hi 1 (by simp at ha; omega); omega)]
  simp [bE]
 ·have g0 : aJ ins 0 = some (ins.getD 0 []) := oV (by simp at ha; omega)
  have g1 : aJ ins 1 = some (ins.getD 1 []) := getD1 (by simp at ha; omega)
  rw [h,g0,g1]
  simp only [bPs,set_ok]
  simp [bE]
 ·have g0 : aJ ins 0 = some (ins.getD 0 []) := oV (by simp at ha; omega)
  have g1 : aJ ins 1 = some (ins.getD 1 []) := getD1 (by simp at ha; omega)
  rw [h,g0,g1]
  simp only [bPs,set_ok]
  simp [bE]
 ·have g0 : aJ ins 0 = some (ins.getD 0 []) := oV (by simp at ha; omega)
  rw [h,g0]
  simp only [bPs]
  rw [named_eq c q _ (hn (.inr h)) hself]
  simp [bE]
 ·have g0 : aJ ins 0 = some (ins.getD 0 []) := oV (by simp at ha; omega)
  rw [h,sort_run c.vars _ ins g0,g0]
  simp only [bE,bPs]
  by_cases hse : jG c.vars (ins.getD 0 []) q.exprs = 0
  ·simp only [hse,ne_eq,not_true_eq_false,if_false]; rfl
  ·simp only [hse,ne_eq,not_false_eq_true,if_true]; rfl
 ·have g0 : aJ ins 0 = some (ins.getD 0 []) := oV (by simp at ha; omega)
  rw [h,g0]
  simp [bE]
def dG : List (List LCol × Int) → List (List LCol) × Int
 | []=>([],0)
 | r :: l=>if r.2 ≠ 0 then ([],r.2) else if (dG l).2 ≠ 0 then ([],(dG l).2) else (r.1 :: (dG l).1,0)
def pz (c : LChecker) (q : LQuery) (ins : List (List LCol × Int)) : List LCol × Int :=
 if lG q = false then ([],3) else if (dG ins).2 ≠ 0 then ([],(dG ins).2)
 else if (iD c q (dG ins).1).2 ≠ 0 then ([],(iD c q (dG ins).1).2)
 else if 20 < (iD c q (dG ins).1).1.length then ([],2)
 else if ((iD c q (dG ins).1).1.map LCol.name).Nodup then ((iD c q (dG ins).1).1,0) else ([],23)
def fo (c : LChecker) (q : LQuery) : List LCol × Int := pz c q (q.inputs.attach.map fun x=>fo c x.1)
termination_by SizeOf.sizeOf q
decreasing_by exact LQuery.inputs_lt x.2
theorem colsQ_eq (c : LChecker) (q : LQuery) : fo c q = pz c q (q.inputs.map (fo c)) := by
 rw [fo,List.attach_map_val (f := fo c)]
theorem tT (f : LQuery → Option (List LCol × Int)) (g : LQuery → List LCol × Int) : ∀ (l : List LQuery) (j : Nat) (s : List (List LCol)),(∀ x ∈ l,f x = some (g x)) → s.length + l.length ≤ 10000000 → ∀ k : List (List LCol) → Option (List LCol × Int),
  af (aE (σ := List (List LCol)) (ρ := ((List LCol) × Int)) (fun (_ : Nat) (x1 : LQuery) (s1 : List (List LCol))=>af (f x1) fun x28=>cond (x28.2 != (0 : Int)) (some (.ret ([],x28.2)))
    (af (dh 24 s1 ([x28.1] : List (List LCol))) fun (x37 : List (List LCol))=>some (.next x37))) j l s) (fun fl1=>fl1.thenR k) =
   if (dG (l.map g)).2 ≠ 0 then some ([],(dG (l.map g)).2) else k (s ++ (dG (l.map g)).1)
 | [],j,s,_,_,k=>by simp [aE,dG]
 | x :: l,j,s,h,hb,k=>by
  rw [aE,h x (by simp),bPs,List.map_cons,dG]
  by_cases h1 : (g x).2 = 0
  ·rw [np h1,zd,ce (by decide) (by simp at hb ⊢; omega),bPs]
   simp only [h1,ne_eq,not_true_eq_false,if_false]
   rw [tT f g l (j + 1) _ (fun y hy=>h y (by simp [hy])) (by simp at hb ⊢; omega) k]
   by_cases h2 : (dG (l.map g)).2 = 0
   ·simp [h2]
   ·simp [h2]
  ·rw [me h1]; simp [h1]
theorem rD : ∀ {l : List (List LCol × Int)},(dG l).2 = 0 → (∀ r ∈ l,r.2 = 0) ∧ (dG l).1 = l.map (·.1)
 | [],_=>⟨by simp,rfl⟩
 | r :: l,h=>by
  simp only [dG] at h ⊢
  by_cases h1 : r.2 = 0
  ·by_cases h2 : (dG l).2 = 0
   ·obtain ⟨a,b⟩ := rD h2
    refine ⟨fun x hx=>?_,by simp [h1,h2,b]⟩
    rcases List.mem_cons.1 hx with rfl | hx
    ·exact h1
    ·exact a x hx
   ·simp [h1,h2] at h
  ·simp [h1] at h
theorem dup_run (out : List LCol) : af (aE (σ := Unit) (ρ := ((List LCol) × Int)) (fun (j2 : Nat) (x2 : LCol) (_ : Unit) =>
     af (oH out 0 (j2 : Int)) fun (x61 : List LCol) =>
     af (bO x61 (fun a0=>some (bX a0 x2))) fun x63 =>
     cond x63 (some (.ret ([],23))) (some (.next ()))) 0 out ()) (fun fl2=>fl2.thenR fun (_ : Unit)=>some (out,0)) = some (if (out.map LCol.name).Nodup then (out,0) else ([],23)) := by
 obtain ⟨fl,hfl,hr⟩ := eC (step := fun (j2 : Nat) (x2 : LCol) (_ : Unit) =>
     af (oH out 0 (j2 : Int)) fun (x61 : List LCol) =>
     af (bO x61 (fun a0=>some (bX a0 x2))) fun x63 =>
     cond x63 (some (Flow.ret (([],23) : List LCol × Int))) (some (.next ())))
  (fun j _=>((out.take j).map LCol.name).Nodup) (fun r=>r = ([],23) ∧ ¬ (out.map LCol.name).Nodup) out 0 () (by simp) (fun k x s hk hI=>by
   simp only [Nat.zero_add] at hI ⊢
   have hkl := (zg.1 hk).1
   rw [qI ⟨by omega,by omega,by omega⟩,bPs]
   unfold bO
   rw [idx_column,bPs,bPs,iz]
   simp only [Int.toNat_natCast,Int.toNat_zero,List.drop_zero]
   cases ha : (out.take k).any fun a0=>bX a0 x with
   | true =>
    refine ⟨_,rfl,rfl,fun hnd=>?_⟩
    obtain ⟨y,hy,he⟩ := List.any_eq_true.1 ha
    have he : y.name = x.name := by simpa [bX] using he
    obtain ⟨i,hi,hyi⟩ := List.mem_take_iff_getElem.1 hy
    have hii : i < k := by omega
    rw [List.nodup_iff_pairwise_ne,List.pairwise_iff_getElem] at hnd
    refine hnd i k (by simp; omega) (by simpa using hkl) hii ?_
    simp only [List.getElem_map]
    rw [(zg.1 hk).2,hyi,he]
   | false =>
    refine ⟨_,rfl,?_⟩
    simp only
    rw [List.take_add_one,hk,List.map_append,List.nodup_append]
    refine ⟨hI,by simp,fun a ha' b hb hab=>?_⟩
    simp at hb
    subst hb
    subst hab
    obtain ⟨y,hy,he⟩ := List.mem_map.1 ha'
    have := List.any_eq_false.1 ha y hy
    exact this (by simpa [bX] using he))
 rw [hfl,bPs]
 cases fl with
 | brk s=>exact absurd hr (by simp)
 | ret r=>rw [oK,hr.1,zy hr.2]
 | next s =>
  simp only [Nat.zero_add,List.take_length] at hr
  rw [jb,zp hr]
theorem ja (c : LChecker) (q : LQuery) : (fo c q).1.length ≤ 20 := by
 rw [colsQ_eq]
 unfold pz
 repeat' split
 all_goals first | (simp; done) | (simp only; omega)
theorem cols_ok (c : LChecker) : ∀ q : LQuery,SmallQ q → eT c q = some (fo c q) := by
 refine LQuery.ind fun q ih hsm=>?_
 refine pp (γ := LChecker) (F := fun n c q=>eR n c q) (O := fun r c q=>eS r c q) (fun n=>rfl) c q ?_ (fun x hx=>⟨_,ih x hx (hsm.sub hx)⟩) ?_
 ·intro r r' h
  simp only [eS]
  congr 1
  funext b
  congr 2
  exact lg q.inputs 0 _ fun k x s hk=>by rw [h x (gI hk)]
 ·have e : ∀ c x,(jo fun n=>eR n c x) = eT c x := fun _ _=>rfl
  simp only [eS,e]
  have hself := hsm.self
  rw [shape_eq q ⟨by omega,by omega⟩,bPs,colsQ_eq]
  unfold pz
  cases hs : lG q with
  | false=>rfl
  | true =>
   have hok := shape_ok hs
   have hin : q.inputs.length ≤ 2 := by rw [hok.arity]; unfold pN; split <;> (try split) <;> omega
   simp only [Bool.not_true,zd,Bool.true_eq_false,if_false]
   rw [tT (eT c) (fo c) q.inputs 0 [] (fun x hx=>ih x hx (hsm.sub hx)) (by simp; omega),List.nil_append]
   by_cases h1 : (dG (q.inputs.map (fo c))).2 = 0
   ·obtain ⟨a,b⟩ := rD h1
    simp only [h1,ne_eq,not_true_eq_false,if_false]
    rw [out_eq hok hsm (by rw [b]; simp) (fun l hl=>by
     rw [b] at hl
     obtain ⟨r,hr,rfl⟩ := List.mem_map.1 hl
     obtain ⟨x,_,rfl⟩ := List.mem_map.1 hr
     exact ja c x),bPs]
    generalize iD c q (dG (q.inputs.map (fo c))).1 = o
    by_cases h2 : o.2 = 0
    ·rw [np h2,zd]
     simp only [h2,not_true_eq_false,if_false]
     by_cases h3 : 20 < o.1.length
     ·rw [zt (show (o.1.length : Int) > 20 from by omega),zp h3]; rfl
     ·rw [zf (show ¬ (o.1.length : Int) > 20 from by omega),zy h3,zd]
      exact dup_run o.1
    ·rw [me h2]; simp [h2]
   ·simp [h1]
theorem whileM_by {σ ρ : Type} {step : σ → Option (Flow σ ρ)} (I : σ → Prop) (μ : σ → Nat) (Q : σ → Prop) (R : ρ → Prop) (hs : ∀ s,I s → ∃ fl,step s = some fl ∧ (match fl with | .next s'=>I s' ∧ μ s' < μ s | .brk s'=>Q s' | .ret r=>R r)) :
  ∀ s,I s → ∃ fl,fG step s = some fl ∧ (match fl with | .next s'=>Q s' | .brk _=>False | .ret r=>R r) := by
 intro s
 generalize hn : μ s = n
 induction n using Nat.strongRecOn generalizing s with
 | _ n ih =>
  intro hI
  obtain ⟨fl,h1,h2⟩ := hs s hI
  cases fl with
  | next s' =>
   obtain ⟨fl,h3,h4⟩ := ih (μ s') (hn ▸ h2.2) s' rfl h2.1
   exact ⟨fl,lO h1 h3,h4⟩
  | brk s'=>exact ⟨.next s',lO h1 rfl,h2⟩
  | ret r=>exact ⟨.ret r,lO h1 rfl,h2⟩
theorem gH {σ β : Type} {step : σ → Option (Flow σ Empty)} {k : σ → Option β} {R : β → Prop} {s : σ} (I : σ → Prop) (μ : σ → Nat) (Q : σ → Prop) (h0 : I s)
  (hs : ∀ s,I s → ∃ fl,step s = some fl ∧ (match fl with | .next s'=>I s' ∧ μ s' < μ s | .brk s'=>Q s' | .ret _=>False)) (hk : ∀ s',Q s' → ∃ r,k s' = some r ∧ R r) :
  ∃ r,af (fG step s) (fun fl=>fl.thenP k) = some r ∧ R r := by
 obtain ⟨fl,h1,h2⟩ := whileM_by (step := step) I μ Q (fun _=>False) (fun s hI=>by
  obtain ⟨fl,h1,h2⟩ := hs s hI
  refine ⟨fl,h1,?_⟩
  cases fl with
  | next s'=>exact h2
  | brk s'=>exact h2
  | ret r=>exact r.elim) s h0
 cases fl with
 | next s'=>rw [h1]; exact hk s' h2
 | brk s'=>exact absurd h2 (by simp)
 | ret r=>exact r.elim
theorem mid_eq {n : Int} (h0 : 0 ≤ n) (h1 : n ≤ 4611686018427387904) : IntKind.i64.wrap (Int.fdiv (IntKind.u64.wrap (IntKind.i64.wrap n)) (2 ^ 1)) = n / 2 := by
 have h3 : IntKind.i64.wrap n = n := bq (by omega) (by omega)
 have h2 : IntKind.u64.wrap n = n := by
  simp only [IntKind.wrap,IntKind.bits,IntKind.signed]
  simp
  omega
 rw [h3,h2,show (2 : Int) ^ 1 = 2 from rfl,Int.fdiv_eq_ediv_of_nonneg _ (by decide)]
 exact bq (by omega) (by omega)
section
variable {α : Type}
theorem swap_perm {l : List α} {i j : Nat} {x y : α} (hi : l[i]? = some x) (hj : l[j]? = some y) : ((l.set i y).set j x).Perm l := by
 have hil := (zg.1 hi).1
 have hjl := (zg.1 hj).1
 have hx := (zg.1 hi).2
 have hy := (zg.1 hj).2
 rw [← hx,← hy]
 exact List.set_set_perm hil hjl
end
section
abbrev Rows := Rz
abbrev Cmp := Rq → Rq → Option Int
structure SrtOk (cmp : Cmp) (d0 d : Rows) : Prop where
 perm : d.Perm d0
 small : d0.length ≤ 1000000
 tot : ∀ x ∈ d0,∀ y ∈ d0,Tot (cmp x y)
variable {cmp : Cmp} {d0 : Rows}
theorem SrtOk.len {d : Rows} (h : SrtOk cmp d0 d) : d.length = d0.length := h.perm.length_eq
theorem SrtOk.cm {d : Rows} (h : SrtOk cmp d0 d) {x y : Rq} (hx : x ∈ d) (hy : y ∈ d) : Tot (cmp x y) := h.tot x (h.perm.mem_iff.1 hx) y (h.perm.mem_iff.1 hy)
theorem SrtOk.swap {d : Rows} (h : SrtOk cmp d0 d) {i j : Nat} {x y : Rq} (hi : d[i]? = some x) (hj : d[j]? = some y) : SrtOk cmp d0 ((d.set i y).set j x) := ⟨(swap_perm hi hj).trans h.perm,h.small,h.tot⟩
theorem SrtOk.get {d : Rows} (h : SrtOk cmp d0 d) {i : Int} (h0 : 0 ≤ i) (h1 : i < d0.length) : ∃ x,aJ d i = some x ∧ d[i.toNat]? = some x ∧ x ∈ d := by
 have hl := h.len
 have : i.toNat < d.length := by omega
 exact ⟨d[i.toNat],lq h0 (ze this),ze this,List.getElem_mem _⟩
theorem getI_set {α : Type} {l : List α} {i j : Int} {x y : α} (h0 : 0 ≤ j) (hj : l[j.toNat]? = some y) : ∃ z,aJ (l.set i.toNat x) j = some z := by
 have hl := (zg.1 hj).1
 exact ⟨_,lq h0 (ze (by simpa using hl))⟩
theorem sZ {β : Type} {d : Rows} (h : SrtOk cmp d0 d) {i j : Int} (hi0 : 0 ≤ i) (hi1 : i < d0.length) (hj0 : 0 ≤ j) (hj1 : j < d0.length) : ∃ d',SrtOk cmp d0 d' ∧ ∀ k : Rows → Option β,
  (af (aJ d j) fun (x28 : Rq)=>af (aJ d i) fun (x34 : Rq)=>af (aJ d i) fun (_ : Rq)=>bp (d.set i.toNat x28) fun (y6 : Rows)=>af (aJ y6 j) fun (_ : Rq)=>bp (y6.set j.toNat x34) fun (y7 : Rows)=>k y7) = k d' := by
 obtain ⟨y,hy,hy',_⟩ := h.get hj0 hj1
 obtain ⟨x,hx,hx',_⟩ := h.get hi0 hi1
 obtain ⟨z,hz⟩ := getI_set (i := i) (x := y) hj0 hy'
 refine ⟨_,h.swap hx' hy',fun k=>?_⟩
 rw [hy,hx]
 simp only [bPs,bE]
 rw [hz,bPs]
theorem sI {d : Rows} (h : SrtOk cmp d0 d) {a b : Int} (ha : 0 ≤ a ∧ a ≤ d0.length) (hb : b ≤ d0.length) : ∃ d',cp d a b cmp = some d' ∧ SrtOk cmp d0 d' := by
 have hs := h.small
 unfold cp
 rw [bq (by omega) (by omega)]
 refine gH (fun s=>SrtOk cmp d0 s.1 ∧ a < s.2) (fun s=>(b - s.2).toNat) (fun s=>SrtOk cmp d0 s.1) ⟨h,by show a < a + 1; omega⟩ (fun s hI=>?_) (fun s hq=>⟨_,rfl,hq⟩)
 obtain ⟨h1,h2⟩ := hI
 by_cases hlt : s.2 < b
 ·rw [zt hlt,zc]
  refine gH (fun t=>SrtOk cmp d0 t.1 ∧ a ≤ t.2 ∧ t.2 < b) (fun t=>(t.2 - a).toNat) (fun t=>SrtOk cmp d0 t.1) ⟨h1,by show a ≤ s.2; omega,hlt⟩ (fun t hI=>?_) (fun t hq=>⟨_,rfl,?_⟩)
  ·obtain ⟨g1,g2,g3⟩ := hI
   by_cases hgt : t.2 > a
   ·rw [zt hgt,zc,bq (by omega) (by omega)]
    obtain ⟨x,hx,hx',hxm⟩ := g1.get (i := t.2) (by omega) (by omega)
    obtain ⟨y,hy,hy',hym⟩ := g1.get (i := t.2 - 1) (by omega) (by omega)
    obtain ⟨c,hc⟩ := g1.cm hxm hym
    obtain ⟨d',hd',hsw⟩ := sZ (β := Flow (Rows × Int) Empty) g1 (i := t.2) (j := t.2 - 1) (by omega) (by omega) (by omega) (by omega)
    rw [hx,bPs,hy,bPs,hc,bPs,bPs]
    by_cases hneg : c < 0
    ·rw [zt hneg]
     have := hsw (fun y31=>some (.next (y31,t.2 - 1)))
     rw [hx,hy] at this
     refine ⟨.next (d',t.2 - 1),?_,⟨hd',by show a ≤ t.2 - 1; omega,by show t.2 - 1 < b; omega⟩,by show (t.2 - 1 - a).toNat < (t.2 - a).toNat; omega⟩
     rw [zc]
     simp only
     rw [hy,hx]
     exact this
    ·rw [zf hneg]
     exact ⟨_,rfl,g1⟩
   ·rw [zf hgt]
    exact ⟨_,rfl,g1⟩
  ·show (SrtOk cmp d0 t.1 ∧ a < IntKind.i64.wrap (s.2 + 1)) ∧ (b - IntKind.i64.wrap (s.2 + 1)).toNat < (b - s.2).toNat
   rw [bq (by omega) (by omega)]
   exact ⟨⟨hq,by omega⟩,by omega⟩
 ·rw [zf hlt]
  exact ⟨_,rfl,h1⟩
theorem pY {d : Rows} (h : SrtOk cmp d0 d) {a b n : Int} (ha : 0 ≤ a) (hb : 0 ≤ b) (hn : n ≤ d0.length) (ha' : a + n ≤ d0.length) (hb' : b + n ≤ d0.length) : ∃ d',ci d a b n cmp = some d' ∧ SrtOk cmp d0 d' := by
 have hs := h.small
 unfold ci
 refine gH (fun s=>SrtOk cmp d0 s.1 ∧ 0 ≤ s.2) (fun s=>(n - s.2).toNat) (fun s=>SrtOk cmp d0 s.1) ⟨h,by show (0 : Int) ≤ 0; omega⟩ (fun s hI=>?_) (fun s hq=>⟨_,rfl,hq⟩)
 obtain ⟨h1,h2⟩ := hI
 by_cases hlt : s.2 < n
 ·rw [zt hlt,zc,bq (n := b + s.2) (by omega) (by omega),bq (n := a + s.2) (by omega) (by omega),bq (n := s.2 + 1) (by omega) (by omega)]
  obtain ⟨d',hd',hsw⟩ := sZ (β := Flow (Rows × Int) Empty) h1 (i := a + s.2) (j := b + s.2) (by omega) (by omega) (by omega) (by omega)
  exact ⟨_,hsw _,⟨hd',by show 0 ≤ s.2 + 1; omega⟩,by show (n - (s.2 + 1)).toNat < (n - s.2).toNat; omega⟩
 ·rw [zf hlt]
  exact ⟨_,rfl,h1⟩
theorem rotate_ok {d : Rows} (h : SrtOk cmp d0 d) {a m b : Int} (ha : 0 ≤ a) (hm : a < m) (hb : m < b) (hb' : b ≤ d0.length) : ∃ d',dc d a m b cmp = some d' ∧ SrtOk cmp d0 d' := by
 have hs := h.small
 unfold dc
 rw [bq (n := m - a) (by omega) (by omega),bq (n := b - m) (by omega) (by omega)]
 refine gH (fun s=>SrtOk cmp d0 s.1 ∧ 0 < s.2.1 ∧ 0 < s.2.2 ∧ s.2.1 ≤ m - a ∧ s.2.2 ≤ b - m) (fun s=>(s.2.1 + s.2.2).toNat) (fun s=>SrtOk cmp d0 s.1 ∧ 0 < s.2.1 ∧ s.2.1 ≤ m - a ∧ s.2.1 ≤ b - m) ⟨h,by show 0 < m - a; omega,by show 0 < b - m; omega,Int.le_refl _,Int.le_refl _⟩ (fun s hI=>?_) (fun s hq=>?_)
 ·obtain ⟨h1,h2,h3,h4,h5⟩ := hI
  by_cases hne : s.2.1 = s.2.2
  ·rw [np hne]
   exact ⟨_,rfl,h1,h2,h4,by show s.2.1 ≤ b - m; omega⟩
  ·rw [me hne,zc,bq (n := m - s.2.1) (by omega) (by omega)]
   by_cases hgt : s.2.1 > s.2.2
   ·rw [zt hgt,zc]
    obtain ⟨d',e,hd'⟩ := pY h1 (a := m - s.2.1) (b := m) (n := s.2.2) (by omega) (by omega) (by omega) (by omega) (by omega)
    rw [e,bPs,cO (by rw [hd'.len,h1.len]),bPs,bq (by omega) (by omega)]
    exact ⟨_,rfl,⟨hd',by show 0 < s.2.1 - s.2.2; omega,h3,by show s.2.1 - s.2.2 ≤ m - a; omega,h5⟩,by show (s.2.1 - s.2.2 + s.2.2).toNat < (s.2.1 + s.2.2).toNat; omega⟩
   ·rw [zf hgt,zd,bq (n := m + s.2.2) (by omega) (by omega),bq (n := m + s.2.2 - s.2.1) (by omega) (by omega)]
    obtain ⟨d',e,hd'⟩ := pY h1 (a := m - s.2.1) (b := m + s.2.2 - s.2.1) (n := s.2.1) (by omega) (by omega) (by omega) (by omega) (by omega)
    rw [e,bPs,cO (by rw [hd'.len,h1.len]),bPs,bq (by omega) (by omega)]
    exact ⟨_,rfl,⟨hd',h2,by show 0 < s.2.2 - s.2.1; omega,h4,by show s.2.2 - s.2.1 ≤ b - m; omega⟩,by show (s.2.1 + (s.2.2 - s.2.1)).toNat < (s.2.1 + s.2.2).toNat; omega⟩
 ·obtain ⟨h1,h2,h3,h4⟩ := hq
  rw [bq (n := m - s.2.1) (by omega) (by omega)]
  obtain ⟨d',e,hd'⟩ := pY h1 (a := m - s.2.1) (b := m) (n := s.2.1) (by omega) (by omega) (by omega) (by omega) (by omega)
  rw [e,bPs,cO (by rw [hd'.len,h1.len]),bPs]
  exact ⟨_,rfl,hd'⟩
def LeO {β : Type} (o o' : Option β) : Prop := ∀ r,o = some r → o' = some r
theorem LeO.refl {β : Type} (o : Option β) : LeO o o := fun _ h=>h
theorem LeO.bind {β γ : Type} {o o' : Option β} {k k' : β → Option γ} (h : LeO o o') (hk : ∀ v,LeO (k v) (k' v)) : LeO (af o k) (af o' k') := by
 intro r hr
 cases o with
 | none=>cases hr
 | some v=>rw [h v rfl]; exact hk v r hr
theorem LeO.cond {β : Type} {b : Bool} {x x' y y' : Option β} (hx : LeO x x') (hy : LeO y y') : LeO (cond b x y) (cond b x' y') := by
 cases b
 ·exact hy
 ·exact hx
theorem LeO.thenP {σ β : Type} {fl : Flow σ Empty} {k k' : σ → Option β} (hk : ∀ s,LeO (k s) (k' s)) : LeO (fl.thenP k) (fl.thenP k') := by
 cases fl with
 | next s=>exact hk s
 | brk s=>exact hk s
 | ret r=>exact r.elim
theorem symMerge_mono {r r' : Rows → Int → Int → Int → Option Rows} (h : ∀ d a m b,LeO (r d a m b) (r' d a m b)) (d : Rows) (a m b : Int) : LeO (ct r d a m b cmp) (ct r' d a m b cmp) := by
 unfold ct
 simp only [bE]
 refine LeO.cond (LeO.refl _) (LeO.cond (LeO.refl _) (LeO.bind (LeO.refl _) fun fl=>LeO.thenP fun s=>LeO.bind (LeO.refl _) fun t=>LeO.bind (LeO.cond (LeO.bind (h _ _ _ _) fun _=>LeO.refl _) (LeO.refl _)) fun u=>LeO.cond (LeO.cond (LeO.bind (h _ _ _ _) fun _=>LeO.refl _) (LeO.refl _)) (LeO.refl _)))
theorem rZ : ∀ (n : Nat) (d : Rows) (a m b : Int),LeO (bm n d a m b cmp) (bm (n + 1) d a m b cmp)
 | 0,d,a,m,b=>fun r h=>by simp [bm] at h
 | n + 1,d,a,m,b=>by
  rw [bm,bm]
  exact symMerge_mono (fun d a m b=>rZ n d a m b) d a m b
theorem su {n : Nat} {d : Rows} {a m b : Int} {r : Rows} (h : bm n d a m b cmp = some r) : eZ d a m b cmp = some r := by
 refine qC n fun k hk=>?_
 obtain ⟨j,rfl⟩ : ∃ j,k = n + j := ⟨k - n,by omega⟩
 clear hk
 induction j with
 | zero=>exact h
 | succ j ih=>exact rZ (n + j) d a m b r ih
theorem nS : ∀ (n : Nat) {d : Rows} (_ : SrtOk cmp d0 d) {a m b : Int},0 ≤ a → a < m → m < b → b ≤ d0.length → (b - a).toNat < n → ∃ d',bm n d a m b cmp = some d' ∧ SrtOk cmp d0 d'
 | 0,_,_,_,_,_,_,_,_,_,hn=>by omega
 | n + 1,d,h,a,m,b,ha,hm,hb,hb',hn=>by
  have hs := h.small
  rw [bm]
  unfold ct
  rw [bq (n := m - a) (by omega) (by omega),bq (n := b - m) (by omega) (by omega)]
  by_cases h1 : m - a = 1
  ·rw [kx h1,zc]
   refine gH (fun s=>SrtOk cmp d0 s.1 ∧ m ≤ s.2.1 ∧ s.2.1 ≤ s.2.2 ∧ s.2.2 ≤ b) (fun s=>(s.2.2 - s.2.1).toNat) (fun s=>SrtOk cmp d0 s.1 ∧ m ≤ s.2.1 ∧ s.2.1 ≤ b) ⟨h,Int.le_refl _,by show m ≤ b; omega,Int.le_refl _⟩ (fun s hI=>?_) (fun s hq=>?_)
   ·obtain ⟨g1,g2,g3,g4⟩ := hI
    by_cases hlt : s.2.1 < s.2.2
    ·rw [zt hlt,zc,mid_eq (n := s.2.1 + s.2.2) (by omega) (by omega)]
     obtain ⟨x,hx,_,hxm⟩ := g1.get (i := (s.2.1 + s.2.2) / 2) (by omega) (by omega)
     obtain ⟨y,hy,_,hym⟩ := g1.get (i := a) (by omega) (by omega)
     obtain ⟨c,hc⟩ := g1.cm hxm hym
     rw [hx,bPs,hy,bPs,hc,bPs]
     by_cases hneg : c < 0
     ·rw [zt hneg,zc,bq (by omega) (by omega)]
      exact ⟨_,rfl,⟨g1,by show m ≤ (s.2.1 + s.2.2) / 2 + 1; omega,by show (s.2.1 + s.2.2) / 2 + 1 ≤ s.2.2; omega,g4⟩,by show (s.2.2 - ((s.2.1 + s.2.2) / 2 + 1)).toNat < (s.2.2 - s.2.1).toNat; omega⟩
     ·rw [zf hneg,zd]
      exact ⟨_,rfl,⟨g1,g2,by show s.2.1 ≤ (s.2.1 + s.2.2) / 2; omega,by show (s.2.1 + s.2.2) / 2 ≤ b; omega⟩,by show ((s.2.1 + s.2.2) / 2 - s.2.1).toNat < (s.2.2 - s.2.1).toNat; omega⟩
    ·rw [zf hlt]
     exact ⟨_,rfl,g1,g2,by show s.2.1 ≤ b; omega⟩
   ·obtain ⟨g1,g2,g3⟩ := hq
    rw [bq (n := s.2.1 - 1) (by omega) (by omega)]
    refine gH (fun t=>SrtOk cmp d0 t.1 ∧ a ≤ t.2) (fun t=>(s.2.1 - t.2).toNat) (fun t=>SrtOk cmp d0 t.1) ⟨g1,Int.le_refl _⟩ (fun t hI=>?_) (fun t hq=>⟨_,rfl,hq⟩)
    obtain ⟨k1,k2⟩ := hI
    by_cases hlt : t.2 < s.2.1 - 1
    ·rw [zt hlt,zc,bq (n := t.2 + 1) (by omega) (by omega)]
     obtain ⟨d',hd',hsw⟩ := sZ (β := Flow (Rows × Int) Empty) k1 (i := t.2) (j := t.2 + 1) (by omega) (by omega) (by omega) (by omega)
     exact ⟨_,hsw _,⟨hd',by show a ≤ t.2 + 1; omega⟩,by show (s.2.1 - (t.2 + 1)).toNat < (s.2.1 - t.2).toNat; omega⟩
    ·rw [zf hlt]
     exact ⟨_,rfl,k1⟩
  ·rw [cE h1,zd]
   by_cases h2 : b - m = 1
   ·rw [kx h2,zc]
    refine gH (fun s=>SrtOk cmp d0 s.1 ∧ a ≤ s.2.1 ∧ s.2.1 ≤ s.2.2 ∧ s.2.2 ≤ m) (fun s=>(s.2.2 - s.2.1).toNat) (fun s=>SrtOk cmp d0 s.1 ∧ a ≤ s.2.1 ∧ s.2.1 ≤ m) ⟨h,Int.le_refl _,by show a ≤ m; omega,Int.le_refl _⟩ (fun s hI=>?_) (fun s hq=>?_)
    ·obtain ⟨g1,g2,g3,g4⟩ := hI
     by_cases hlt : s.2.1 < s.2.2
     ·rw [zt hlt,zc,mid_eq (n := s.2.1 + s.2.2) (by omega) (by omega)]
      obtain ⟨x,hx,_,hxm⟩ := g1.get (i := m) (by omega) (by omega)
      obtain ⟨y,hy,_,hym⟩ := g1.get (i := (s.2.1 + s.2.2) / 2) (by omega) (by omega)
      obtain ⟨c,hc⟩ := g1.cm hxm hym
      rw [hx,bPs,hy,bPs,hc,bPs]
      by_cases hneg : c < 0
      ·rw [zt hneg]
       exact ⟨_,rfl,⟨g1,g2,by show s.2.1 ≤ (s.2.1 + s.2.2) / 2; omega,by show (s.2.1 + s.2.2) / 2 ≤ m; omega⟩,by show ((s.2.1 + s.2.2) / 2 - s.2.1).toNat < (s.2.2 - s.2.1).toNat; omega⟩
      ·rw [zf hneg,Bool.not_false,zc,bq (by omega) (by omega)]
       exact ⟨_,rfl,⟨g1,by show a ≤ (s.2.1 + s.2.2) / 2 + 1; omega,by show (s.2.1 + s.2.2) / 2 + 1 ≤ s.2.2; omega,g4⟩,by show (s.2.2 - ((s.2.1 + s.2.2) / 2 + 1)).toNat < (s.2.2 - s.2.1).toNat; omega⟩
     ·rw [zf hlt]
      exact ⟨_,rfl,g1,g2,by show s.2.1 ≤ m; omega⟩
    ·obtain ⟨g1,g2,g3⟩ := hq
     refine gH (fun t=>SrtOk cmp d0 t.1 ∧ a ≤ t.2 ∧ t.2 ≤ m) (fun t=>(t.2 - a).toNat) (fun t=>SrtOk cmp d0 t.1) ⟨g1,by show a ≤ m; omega,Int.le_refl _⟩ (fun t hI=>?_) (fun t hq=>⟨_,rfl,hq⟩)
     obtain ⟨k1,k2,k3⟩ := hI
     by_cases hlt : t.2 > s.2.1
     ·rw [zt hlt,zc,bq (n := t.2 - 1) (by omega) (by omega)]
      obtain ⟨d',hd',hsw⟩ := sZ (β := Flow (Rows × Int) Empty) k1 (i := t.2) (j := t.2 - 1) (by omega) (by omega) (by omega) (by omega)
      exact ⟨_,hsw _,⟨hd',by show a ≤ t.2 - 1; omega,by show t.2 - 1 ≤ m; omega⟩,by show (t.2 - 1 - a).toNat < (t.2 - a).toNat; omega⟩
     ·rw [zf hlt]
      exact ⟨_,rfl,k1⟩
   ·rw [cE h2,zd]
    simp only [bE]
    rw [mid_eq (n := a + b) (by omega) (by omega)]
    generalize hmid : (a + b) / 2 = mid
    have b1 : 2 * mid ≤ a + b ∧ a + b ≤ 2 * mid + 1 := by omega
    rw [bq (n := mid + m) (by omega) (by omega),bq (n := mid + m - b) (by omega) (by omega),bq (n := mid + m - 1) (by omega) (by omega)]
    obtain ⟨lo,hi,e1,l1,l2,l3,l4,l5,l6⟩ : ∃ lo hi : Int,(cond (decide (m > mid)) ((d,mid + m - b,mid)) ((d,a,m)) : Rows × Int × Int) = (d,lo,hi) ∧ a ≤ lo ∧ lo ≤ hi ∧ hi ≤ m ∧ mid + m - lo ≤ b ∧ m ≤ mid + m - hi ∧ hi ≤ mid := by
     by_cases hgt : m > mid
     ·exact ⟨mid + m - b,mid,by rw [zt hgt]; rfl,by omega,by omega,by omega,by omega,by omega,by omega⟩
     ·exact ⟨a,m,by rw [zf hgt]; rfl,by omega,by omega,by omega,by omega,by omega,by omega⟩
    rw [e1]
    refine gH (fun s=>SrtOk cmp d0 s.1 ∧ lo ≤ s.2.1 ∧ s.2.1 ≤ s.2.2 ∧ s.2.2 ≤ hi) (fun s=>(s.2.2 - s.2.1).toNat) (fun s=>SrtOk cmp d0 s.1 ∧ lo ≤ s.2.1 ∧ s.2.1 ≤ hi) ⟨h,Int.le_refl _,l2,Int.le_refl _⟩ (fun s hI=>?_) (fun s hq=>?_)
    ·obtain ⟨g1,g2,g3,g4⟩ := hI
     by_cases hlt : s.2.1 < s.2.2
     ·rw [zt hlt,zc,mid_eq (n := s.2.1 + s.2.2) (by omega) (by omega)]
      generalize hc : (s.2.1 + s.2.2) / 2 = c
      have c1 : s.2.1 ≤ c ∧ c < s.2.2 := by omega
      rw [bq (n := mid + m - 1 - c) (by omega) (by omega)]
      obtain ⟨x,hx,_,hxm⟩ := g1.get (i := mid + m - 1 - c) (by omega) (by omega)
      obtain ⟨y,hy,_,hym⟩ := g1.get (i := c) (by omega) (by omega)
      obtain ⟨v,hv⟩ := g1.cm hxm hym
      rw [hx,bPs,hy,bPs,hv,bPs]
      by_cases hneg : v < 0
      ·rw [zt hneg]
       exact ⟨_,rfl,⟨g1,g2,by show s.2.1 ≤ c; omega,by show c ≤ hi; omega⟩,by show (c - s.2.1).toNat < (s.2.2 - s.2.1).toNat; omega⟩
      ·rw [zf hneg,Bool.not_false,zc,bq (by omega) (by omega)]
       exact ⟨_,rfl,⟨g1,by show lo ≤ c + 1; omega,by show c + 1 ≤ s.2.2; omega,g4⟩,by show (s.2.2 - (c + 1)).toNat < (s.2.2 - s.2.1).toNat; omega⟩
     ·rw [zf hlt]
      exact ⟨_,rfl,g1,g2,by show s.2.1 ≤ hi; omega⟩
    ·obtain ⟨g1,g2,g3⟩ := hq
     rw [bq (n := mid + m - s.2.1) (by omega) (by omega)]
     -- the rotation
     obtain ⟨t,ht,hto⟩ : ∃ t,(af (cond ((cond (decide (s.2.1 < m)) ((s.1,decide (m < mid + m - s.2.1))) ((s.1,false)) : Rows × Bool)).2
       (af (dc ((cond (decide (s.2.1 < m)) ((s.1,decide (m < mid + m - s.2.1))) ((s.1,false)) : Rows × Bool)).1 s.2.1 m (mid + m - s.2.1) cmp) fun x191=>af (eO (x191.length = ((cond (decide (s.2.1 < m)) ((s.1,decide (m < mid + m - s.2.1))) ((s.1,false)) : Rows × Bool)).1.length) ()) fun (_ : Unit)=>some x191)
       (some ((cond (decide (s.2.1 < m)) ((s.1,decide (m < mid + m - s.2.1))) ((s.1,false)) : Rows × Bool)).1)) some) = some t ∧ SrtOk cmp d0 t := by
      by_cases c1 : s.2.1 < m
      ·by_cases c2 : m < mid + m - s.2.1
       ·rw [zt c1,zt c2]
        simp only [zc]
        obtain ⟨d',e,hd'⟩ := rotate_ok g1 (a := s.2.1) (m := m) (b := mid + m - s.2.1) (by omega) c1 c2 (by omega)
        rw [e,bPs,cO (by rw [hd'.len,g1.len])]
        exact ⟨_,rfl,hd'⟩
       ·rw [zt c1,zf c2]
        exact ⟨_,rfl,g1⟩
      ·rw [zf c1]
       exact ⟨_,rfl,g1⟩
     have ht' := ht
     generalize hcc : (cond ((cond (decide (s.2.1 < m)) ((s.1,decide (m < mid + m - s.2.1))) ((s.1,false)) : Rows × Bool)).2 _ _ : Option Rows) = o at ht ⊢
     cases o with
     | none=>cases ht
     | some t0 =>
      simp only [bPs,zo] at ht
      subst ht
      rw [bPs]
      clear hcc ht'
      obtain ⟨u,hu,huo⟩ : ∃ u,(af (cond ((cond (decide (a < s.2.1)) ((t0,decide (s.2.1 < mid))) ((t0,false)) : Rows × Bool)).2
        (af (bm n ((cond (decide (a < s.2.1)) ((t0,decide (s.2.1 < mid))) ((t0,false)) : Rows × Bool)).1 a s.2.1 mid cmp) fun x205=>af (eO (x205.length = ((cond (decide (a < s.2.1)) ((t0,decide (s.2.1 < mid))) ((t0,false)) : Rows × Bool)).1.length) ()) fun (_ : Unit)=>some x205)
        (some ((cond (decide (a < s.2.1)) ((t0,decide (s.2.1 < mid))) ((t0,false)) : Rows × Bool)).1)) some) = some u ∧ SrtOk cmp d0 u := by
       by_cases c1 : a < s.2.1
       ·by_cases c2 : s.2.1 < mid
        ·rw [zt c1,zt c2]
         simp only [zc]
         obtain ⟨d',e,hd'⟩ := nS n hto (a := a) (m := s.2.1) (b := mid) ha c1 c2 (by omega) (by omega)
         rw [e,bPs,cO (by rw [hd'.len,hto.len])]
         exact ⟨_,rfl,hd'⟩
        ·rw [zt c1,zf c2]
         exact ⟨_,rfl,hto⟩
       ·rw [zf c1]
        exact ⟨_,rfl,hto⟩
      generalize hcc : (cond ((cond (decide (a < s.2.1)) ((t0,decide (s.2.1 < mid))) ((t0,false)) : Rows × Bool)).2 _ _ : Option Rows) = o at hu ⊢
      cases o with
      | none=>cases hu
      | some u0 =>
       simp only [bPs,zo] at hu
       subst hu
       rw [bPs]
       by_cases c1 : mid < mid + m - s.2.1
       ·rw [zt c1,zc]
        by_cases c2 : mid + m - s.2.1 < b
        ·rw [zt c2,zc]
         obtain ⟨d',e,hd'⟩ := nS n huo (a := mid) (m := mid + m - s.2.1) (b := b) (by omega) c1 c2 hb' (by omega)
         rw [e,bPs,cO (by rw [hd'.len,huo.len])]
         exact ⟨_,rfl,hd'⟩
        ·rw [zf c2]
         exact ⟨_,rfl,huo⟩
       ·rw [zf c1]
        exact ⟨_,rfl,huo⟩
theorem stable_ok {d : Rows} (h : SrtOk cmp d0 d) : ∃ d',eg d (d0.length : Int) cmp = some d' ∧ SrtOk cmp d0 d' := by
 have hs := h.small
 unfold eg
 refine gH (fun s=>SrtOk cmp d0 s.1 ∧ 0 ≤ s.2.1 ∧ s.2.1 ≤ s.2.2 ∧ s.2.2 ≤ s.2.1 + 20 ∧ s.2.1 ≤ d0.length) (fun s=>(d0.length + 20 - s.2.2).toNat) (fun s=>SrtOk cmp d0 s.1 ∧ 0 ≤ s.2.1 ∧ s.2.1 ≤ d0.length) ⟨h,by show (0 : Int) ≤ 0; omega,by show (0 : Int) ≤ 20; omega,by show (20 : Int) ≤ 0 + 20; omega,by show (0 : Int) ≤ d0.length; omega⟩ (fun s hI=>?_) (fun s hq=>?_)
 ·obtain ⟨g1,g2,g3,g4,g5⟩ := hI
  by_cases hle : s.2.2 ≤ (d0.length : Int)
  ·rw [zt hle,zc]
   obtain ⟨d',e,hd'⟩ := sI g1 (a := s.2.1) (b := s.2.2) ⟨g2,by omega⟩ hle
   rw [e,bPs,cO (by rw [hd'.len,g1.len]),bPs,bq (by omega) (by omega)]
   exact ⟨_,rfl,⟨hd',by show 0 ≤ s.2.2; omega,by show s.2.2 ≤ s.2.2 + 20; omega,by show s.2.2 + 20 ≤ s.2.2 + 20; omega,hle⟩,by show ((d0.length : Int) + 20 - (s.2.2 + 20)).toNat < ((d0.length : Int) + 20 - s.2.2).toNat; omega⟩
  ·rw [zf hle]
   exact ⟨_,rfl,g1,g2,g5⟩
 ·obtain ⟨g1,g2,g3⟩ := hq
  obtain ⟨d',e,hd'⟩ := sI g1 (a := s.2.1) (b := (d0.length : Int)) ⟨g2,by omega⟩ (Int.le_refl _)
  rw [e,bPs,cO (by rw [hd'.len,g1.len]),bPs]
  clear e g1 g2 g3 s h
  refine gH (fun s=>SrtOk cmp d0 s.1 ∧ 20 ≤ s.2) (fun s=>(d0.length - s.2).toNat) (fun s=>SrtOk cmp d0 s.1) ⟨hd',by show (20 : Int) ≤ 20; omega⟩ (fun s hI=>?_) (fun s hq=>⟨_,rfl,hq⟩)
  obtain ⟨g1,g2⟩ := hI
  by_cases hlt : s.2 < (d0.length : Int)
  ·rw [zt hlt,zc,bq (n := 2 * s.2) (by omega) (by omega)]
   refine gH (fun t=>SrtOk cmp d0 t.1 ∧ 0 ≤ t.2.1 ∧ t.2.2 = t.2.1 + 2 * s.2 ∧ t.2.1 ≤ d0.length) (fun t=>(d0.length + 2 * s.2 - t.2.2).toNat) (fun t=>SrtOk cmp d0 t.1 ∧ 0 ≤ t.2.1 ∧ t.2.1 ≤ d0.length) ⟨g1,by show (0 : Int) ≤ 0; omega,by show 2 * s.2 = 0 + 2 * s.2; omega,by show (0 : Int) ≤ d0.length; omega⟩ (fun t hI=>?_) (fun t hq=>?_)
   ·obtain ⟨k1,k2,k3,k4⟩ := hI
    by_cases hle : t.2.2 ≤ (d0.length : Int)
    ·rw [zt hle,zc,bq (n := t.2.1 + s.2) (by omega) (by omega)]
     obtain ⟨d'',e,hd''⟩ := nS ((t.2.2 - t.2.1).toNat + 1) k1 (a := t.2.1) (m := t.2.1 + s.2) (b := t.2.2) k2 (by omega) (by omega) hle (by omega)
     rw [su e,bPs,cO (by rw [hd''.len,k1.len]),bPs,bq (by omega) (by omega)]
     exact ⟨_,rfl,⟨hd'',by show 0 ≤ t.2.2; omega,by show t.2.2 + 2 * s.2 = t.2.2 + 2 * s.2; omega,hle⟩,by show ((d0.length : Int) + 2 * s.2 - (t.2.2 + 2 * s.2)).toNat < ((d0.length : Int) + 2 * s.2 - t.2.2).toNat; omega⟩
    ·rw [zf hle]
     exact ⟨_,rfl,k1,k2,k4⟩
   ·obtain ⟨k1,k2,k3⟩ := hq
    rw [bq (n := t.2.1 + s.2) (by omega) (by omega),bq (n := s.2 * 2) (by omega) (by omega)]
    by_cases hm : t.2.1 + s.2 < (d0.length : Int)
    ·rw [zt hm,zc]
     obtain ⟨d'',e,hd''⟩ := nS ((d0.length - t.2.1).toNat + 1) k1 (a := t.2.1) (m := t.2.1 + s.2) (b := (d0.length : Int)) k2 (by omega) (by omega) (Int.le_refl _) (by omega)
     rw [su e,bPs,cO (by rw [hd''.len,k1.len]),bPs]
     exact ⟨_,rfl,⟨hd'',by show 20 ≤ s.2 * 2; omega⟩,by show ((d0.length : Int) - s.2 * 2).toNat < ((d0.length : Int) - s.2).toNat; omega⟩
    ·rw [zf hm,zd]
     exact ⟨_,rfl,⟨k1,by show 20 ≤ s.2 * 2; omega⟩,by show ((d0.length : Int) - s.2 * 2).toNat < ((d0.length : Int) - s.2).toNat; omega⟩
  ·rw [zf hlt]
   exact ⟨_,rfl,g1⟩
theorem sortStable_ok {d : Rows} (hs : d.length ≤ 1000000) (ht : ∀ x ∈ d,∀ y ∈ d,Tot (cmp x y)) : ∃ d',cA d cmp = some d' ∧ d'.Perm d := by
 unfold cA
 obtain ⟨d',e,hd'⟩ := stable_ok (cmp := cmp) (d0 := d) (d := d) ⟨List.Perm.refl _,hs,ht⟩
 rw [e,bPs,cO hd'.len,bPs]
 exact ⟨d',rfl,hd'.perm⟩
end
theorem rp (r : LRun) (cols : List LCol) (x : Rq) (l : List LExpr) (hl : l.length ≤ 10000000) : dq r cols x l = some (l.map fun e=>bR (aS r cols x) e) := by
 unfold dq
 rw [rN (xs := l) (fun e=>bR (aS r cols x) e) (fun k e hk=>by
  have := (zg.1 hk).1
  rw [bE,bE,ce (by decide) (by simp; omega),bPs])]
 rfl
theorem compare_tot (a b : Rq) (ds : List Bool) : Tot (io a b ds) := by
 unfold io
 refine Tot.bind (Tot.range _ _ _ fun k x s hk=>?_) fun fl _=>Tot.thenR fun _ _=>Tot.mk
 rw [Nat.zero_add]
 by_cases h1 : (k : Int) ≥ (b.length : Int)
 ·rw [zt h1]; exact Tot.mk
 ·rw [zf h1,zd,hO (by omega)]
  simp only [bPs,bE]
  refine Tot.cond (fun _=>Tot.mk) fun _=>?_
  refine Tot.cond (fun h=>?_) fun _=>Tot.cond (fun _=>Tot.mk) fun _=>Tot.mk
  have h := of_decide_eq_true h
  rw [hO (by omega),bPs]
  exact Tot.cond (fun _=>Tot.cond (fun _=>Tot.mk) fun _=>Tot.mk) fun _=>Tot.cond (fun _=>Tot.mk) fun _=>Tot.mk
theorem sort_ok (r : LRun) (q : LQuery) (cols : List LCol) (l : Rows) (hs : l.length ≤ 1000000) (he : q.exprs.length ≤ 1000000) : ∃ l',fM r q cols l = some l' ∧ l'.Perm l := by
 unfold fM
 obtain ⟨l',e,hp⟩ := sortStable_ok (cmp := fun a0 a1=>fN a0 a1 r cols q) hs (fun x _ y _=>by
  show Tot (fN x y r cols q)
  unfold fN
  rw [rp r cols x q.exprs (by omega),rp r cols y q.exprs (by omega),bPs,bPs]
  exact Tot.bind (compare_tot _ _ _) fun _ _=>Tot.mk)
 rw [e,bPs,cO hp.length_eq,bPs]
 exact ⟨l',rfl,hp⟩
theorem val_eq (x y : LVal) : (x.kind == y.kind && (x.int == y.int && (x.text == y.text && true))) = decide (x = y) := by
 obtain ⟨a,b,c⟩ := x
 obtain ⟨a',b',c'⟩ := y
 by_cases h : (⟨a,b,c⟩ : LVal) = ⟨a',b',c'⟩
 ·rw [zt h]; cases h; simp
 ·rw [zf h]
  by_cases h1 : a = a'
  ·by_cases h2 : b = b'
   ·have h3 : c ≠ c' := fun h3=>h (by rw [h1,h2,h3])
    have : (c == c') = false := by simpa using h3
    simp [this]
   ·simp [cE h2]
  ·simp [cE h1]
theorem equalRow (x y : Rq) : cr x y = some (decide (x = y)) := by
 unfold cr
 by_cases hl : x.length = y.length
 ·rw [pl,zt hl,Bool.not_true,zd]
  obtain ⟨fl,hfl,hr⟩ := eC (step := fun (j1 : Nat) (x1 : LVal) (_ : Unit)=>af (aJ y (j1 : Int)) fun (x22 : LVal)=>cond (!(x1.kind == x22.kind && (x1.int == x22.int && (x1.text == x22.text && true)))) (some (Flow.ret false)) (some (.next ())))
   (fun j _=>x.take j = y.take j) (fun r=>r = false ∧ x ≠ y) x 0 () (by simp) (fun k v s hk hI=>by
    simp only [Nat.zero_add] at hI ⊢
    have hkl := (zg.1 hk).1
    rw [hO (by omega),bPs,val_eq]
    by_cases hv : v = y[k]
    ·rw [zt hv]
     refine ⟨_,rfl,?_⟩
     simp only
     rw [List.take_add_one,List.take_add_one,hk,ze (by omega),hI,hv]
    ·rw [zf hv]
     refine ⟨_,rfl,rfl,fun he=>hv ?_⟩
     subst he
     exact (zg.1 hk).2.symm)
  rw [hfl,bPs]
  cases fl with
  | brk s=>exact absurd hr (by simp)
  | ret r=>rw [oK,hr.1,zf hr.2]
  | next s =>
   simp only [Nat.zero_add,List.take_length] at hr
   rw [hl,List.take_length] at hr
   rw [jb,zt hr]
 ·rw [pl,zf hl,zf (fun h=>hl (by rw [h]))]
  rfl
theorem idxO (l : Rows) (p : Rq → Bool) (f : Rq → Option Bool) (hf : ∀ x ∈ l,f x = some (p x)) (hl : l.length ≤ 10000000) : bF l f = some (aK p l,l) := by
 unfold bF
 rw [qc (by omega),bPs,Int.toNat_natCast]
 obtain ⟨fl,hfl,hr⟩ := eC (step := fun (j1 : Nat) (_ : Nat) (s1 : Rows)=>af (aJ s1 (j1 : Int)) fun (x14 : Rq)=>af (f x14) fun x16=>cond x16 (some (Flow.ret ((j1 : Int),s1))) (some (.next s1)))
  (fun j s=>s = l ∧ ∀ x ∈ l.take j,p x = false) (fun r=>r = (aK p l,l)) (List.range l.length) 0 l ⟨rfl,by simp⟩ (fun k v s hk hI=>by
   simp only [Nat.zero_add] at hI ⊢
   have hkl := (zg.1 hk).1
   simp at hkl
   obtain ⟨rfl,hI⟩ := hI
   rw [hO hkl,bPs,hf _ (List.getElem_mem hkl),bPs]
   cases hp : p s[k] with
   | true=>exact ⟨_,rfl,by simp only; rw [pW hkl hI hp]⟩
   | false =>
    refine ⟨_,rfl,rfl,fun x hx=>?_⟩
    rw [List.take_add_one,ze hkl,List.mem_append] at hx
    rcases hx with hx | hx
    ·exact hI x hx
    ·simp at hx
     rw [hx]
     exact hp)
 rw [hfl,bPs]
 cases fl with
 | brk s=>exact absurd hr (by simp)
 | ret r=>rw [oK,hr]
 | next s =>
  simp only [Nat.zero_add,List.length_range,List.take_length] at hr
  rw [jb,hr.1,kA hr.2]
theorem deleteFunc_eq (l : Rows) (p : Rq → Bool) (f : Rq → Option Bool) (hf : ∀ x ∈ l,f x = some (p x)) (hl : l.length ≤ 1000000) : cT l f = some (l.filter fun x=>!p x) := by
 unfold cT
 rw [idxO l p f hf (by omega),bPs]
 simp only
 rw [cO trivial,bPs]
 by_cases hneg : aK p l = -1
 ·rw [kx hneg,zc]
  congr 1
  symm
  rw [List.filter_eq_self]
  intro x hx
  have : decide (aK p l ≥ 0) = false := by rw [hneg]; rfl
  rw [iz] at this
  have := List.any_eq_false.1 this x hx
  simpa using this
 ·rw [cE hneg,zd]
  have h0 : 0 ≤ aK p l := by rcases idxOf_neg (p := p) (l := l) with h | h; exact absurd h hneg; exact h
  obtain ⟨i,hi⟩ : ∃ i : Nat,aK p l = i := ⟨(aK p l).toNat,by omega⟩
  have hil : i < l.length := by have := pS h0; omega
  have hpre : (l.take i).filter (fun x=>!p x) = l.take i := by
   rw [List.filter_eq_self]
   intro x hx
   have : l.findIdx? p = some i := by
    unfold aK at hi
    cases hq : l.findIdx? p with
    | none=>rw [hq] at hi; simp at hi
    | some j=>rw [hq] at hi; exact congrArg some (by have hi : (j : Int) = (i : Int) := hi; omega)
   obtain ⟨_,_,hlt⟩ := List.findIdx?_eq_some_iff_getElem.1 this
   obtain ⟨j,hj,rfl⟩ := List.mem_take_iff_getElem.1 hx
   simp [hlt j (by omega)]
  have hpi : p l[i] = true := by
   obtain ⟨x,hx,hp⟩ := mp h0
   rw [hi,Int.toNat_natCast,ze hil] at hx
   cases hx
   exact hp
  rw [hi,bq (n := (i : Int) + 1) (by omega) (by omega)]
  obtain ⟨r,hr,hq⟩ := gH (step := fun (s1 : Rows × Int × Int) =>
   cond (decide (s1.2.2 < (s1.1.length : Int)))
    (af (aJ s1.1 s1.2.2) fun (x24 : Rq)=>af (f x24) fun x28=>cond (!x28) (af (aJ s1.1 s1.2.1) fun (_ : Rq)=>bp (s1.1.set s1.2.1.toNat x24) fun (y4 : Rows)=>some (.next (y4,(IntKind.i64.wrap (s1.2.1 + (1 : Int))),(IntKind.i64.wrap (s1.2.2 + (1 : Int))))))
     (some (.next (s1.1,s1.2.1,(IntKind.i64.wrap (s1.2.2 + (1 : Int)))))))
    (some (.brk (s1.1,s1.2.1,s1.2.2)))) (s := (l,(i : Int),(i : Int) + 1)) (k := fun (s1 : Rows × Int × Int)=>af (cutI s1.1 s1.2.1) fun (y5 : Rows)=>af (cutI y5 s1.2.1) fun (y6 : Rows)=>some y6) (R := fun r=>r = l.filter fun x=>!p x)
   (fun s=>∃ a j : Nat,s.2.1 = a ∧ s.2.2 = j ∧ a < j ∧ j ≤ l.length ∧ s.1.length = l.length ∧ s.1.take a = (l.take j).filter (fun x=>!p x) ∧ s.1.drop j = l.drop j) (fun s=>(l.length - s.2.2).toNat)
   (fun s=>∃ a : Nat,s.2.1 = a ∧ a ≤ s.1.length ∧ s.1.take a = l.filter fun x=>!p x)
   ⟨i,i + 1,rfl,by show (i : Int) + 1 = ((i + 1 : Nat) : Int); omega,by omega,by omega,rfl,by
    show l.take i = _
    rw [List.take_add_one,ze hil,List.filter_append,hpre]
    simp [hpi],rfl⟩
   (fun s hI=>by
    obtain ⟨a,j,h1,h2,h3,h4,h5,h6,h7⟩ := hI
    obtain ⟨d,s1,s2⟩ := s
    simp only at h1 h2 h5 h6 h7 ⊢
    subst h1
    subst h2
    by_cases hlt : j < l.length
    ·rw [zt (show (j : Int) < (d.length : Int) from by omega),zc,hO (by omega),bPs]
     have hdj : d[j]? = l[j]? := by
      have := congrArg (fun q=>q[0]?) h7
      simpa using this
     have hdje : d[j] = l[j] := by
      rw [ze (by omega),ze hlt] at hdj
      exact Option.some.inj hdj
     have hdrop : ∀ e : Rows,e.drop j = l.drop j → e.drop (j + 1) = l.drop (j + 1) := fun e he=>by
      rw [← List.drop_drop,← List.drop_drop,he]
     rw [hdje,hf _ (List.getElem_mem hlt),bPs,bq (n := (j : Int) + 1) (by omega) (by omega),bq (n := (a : Int) + 1) (by omega) (by omega)]
     cases hp : p l[j] with
     | true =>
      refine ⟨_,rfl,⟨a,j + 1,rfl,by show (j : Int) + 1 = ((j + 1 : Nat) : Int); omega,by omega,by omega,h5,?_,hdrop d h7⟩,by show ((l.length : Int) - ((j : Int) + 1)).toNat < ((l.length : Int) - (j : Int)).toNat; omega⟩
      show d.take a = _
      rw [h6,List.take_add_one,ze hlt,List.filter_append]
      simp [hp]
     | false =>
      simp only [Bool.not_false,zc]
      rw [hO (by omega),bPs,bE,Int.toNat_natCast]
      refine ⟨_,rfl,⟨a + 1,j + 1,by show (a : Int) + 1 = ((a + 1 : Nat) : Int); omega,by show (j : Int) + 1 = ((j + 1 : Nat) : Int); omega,by omega,by omega,by show (d.set a l[j]).length = l.length; simp [h5],?_,?_⟩,by show ((l.length : Int) - ((j : Int) + 1)).toNat < ((l.length : Int) - (j : Int)).toNat; omega⟩
      ·show (d.set a l[j]).take (a + 1) = _
       rw [List.take_add_one,List.getElem?_set_self (by omega),List.take_set_of_le (by omega),h6,List.take_add_one,ze hlt,List.filter_append]
       simp [hp]
      ·show (d.set a l[j]).drop (j + 1) = _
       rw [List.drop_set_of_lt (by omega)]
       exact hdrop d h7
    ·rw [zf (show ¬ (j : Int) < (d.length : Int) from by omega)]
     refine ⟨_,rfl,a,rfl,by show a ≤ d.length; omega,?_⟩
     show d.take a = _
     rw [h6,List.take_of_length_le (by omega)])
   (fun s hq=>by
    obtain ⟨a,h1,h2,h3⟩ := hq
    rw [h1]
    unfold cutI
    rw [zp ⟨by omega,by simpa using h2⟩,bPs,Int.toNat_natCast,zp ⟨by omega,by simp; omega⟩,bPs,List.take_take,Nat.min_self]
    exact ⟨_,rfl,h3⟩)
  rw [← hq]
  exact hr
def lS : Rows → Rows → Rows
 | [],_=>[]
 | x :: a,left=>if x ∈ left then lS a (left.erase x) else x :: lS a left
theorem erase_idx {α : Type} [BEq α] [LawfulBEq α] [DecidableEq α] {l : List α} {x : α} {i : Nat} (h : l.findIdx? (fun y=>decide (x = y)) = some i) : l.take i ++ l.drop (i + 1) = l.erase x := by
 induction l generalizing i with
 | nil=>simp at h
 | cons a l ih =>
  rw [List.findIdx?_cons] at h
  by_cases hx : x = a
  ·subst hx; simp at h; subst h; simp
  ·have e : decide (x = a) = false := zf hx
   rw [e] at h
   simp only [Bool.false_eq_true,if_false,Option.map_eq_some_iff] at h
   obtain ⟨j,hj,rfl⟩ := h
   have hne : (a == x) = false := by simp; exact fun h=>hx h.symm
   rw [List.erase_cons,hne]
   simp [ih hj]
theorem less_run : ∀ (a : Rows) (j : Nat) (left out : Rows),left.length ≤ 1000000 → out.length + a.length ≤ 1000000 →
  aE (σ := Rows × Rows) (ρ := Empty) (fun (_ : Nat) (x1 : Rq) (s1 : Rows × Rows) =>
  af (bF s1.1 (fun a0=>jj a0 x1)) fun x20 =>
  af (eO (x20.2.length = s1.1.length) ()) fun (_ : Unit) =>
  cond (decide (x20.1 ≥ (0 : Int)))
   (af (delI x20.2 x20.1 (IntKind.i64.wrap (x20.1 + (1 : Int)))) fun x27 =>
   some (.next (x27,s1.2)))
   (af (dh 24 s1.2 ([x1] : Rz)) fun (x31 : Rz) =>
   some (.next (x20.2,x31)))) j a (left,out) = some (.next ((a.foldl (fun l x=>l.erase x) left),out ++ lS a left))
 | [],j,left,out,_,_=>by simp [aE,lS]
 | x :: a,j,left,out,hl,ho=>by
  rw [aE,idxO left (fun y=>decide (x = y)) _ (fun y _=>by unfold jj; rw [equalRow]; rfl) (by omega),bPs]
  simp only
  rw [cO trivial,bPs,lS,List.foldl_cons]
  by_cases hx : x ∈ left
  ·have hany : decide (aK (fun y=>decide (x = y)) left ≥ 0) = true := by rw [iz,List.any_eq_true]; exact ⟨x,hx,by simp⟩
   rw [hany,zc,zp hx]
   have h0 := of_decide_eq_true hany
   unfold aK at h0 ⊢
   cases hq : left.findIdx? (fun y=>decide (x = y)) with
   | none=>rw [hq] at h0; simp at h0
   | some i =>
    have hil := (List.findIdx?_eq_some_iff_getElem.1 hq).1
    simp only
    rw [bq (by omega) (by omega)]
    have hd : delI left (i : Int) ((i : Int) + 1) = some (left.erase x) := by
     unfold delI
     rw [zp ⟨by omega,by omega,by omega⟩,show ((i : Int)).toNat = i from rfl,show ((i : Int) + 1).toNat = i + 1 from by omega,erase_idx hq]
    rw [hd,bPs]
    exact less_run a (j + 1) (left.erase x) out (by have := List.length_erase_le (a := x) (l := left); omega) (by simp at ho; omega)
  ·have hany : decide (aK (fun y=>decide (x = y)) left ≥ 0) = false := by
    rw [iz,List.any_eq_false]
    intro y hy he
    have : x = y := by simpa using he
    exact hx (this ▸ hy)
   rw [hany,zd,zy hx,ce (by decide) (by simp at ho ⊢; omega),bPs]
   simp only
   rw [less_run a (j + 1) left _ hl (by simp at ho ⊢; omega),List.erase_of_not_mem hx]
   simp
theorem less_eq (a b : Rows) (ha : a.length ≤ 1000000) (hb : b.length ≤ 1000000) : ln a b = some (lS a b) := by
 unfold ln
 rw [less_run a 0 b [] hb (by simpa using ha),bPs,bM]
 rfl
theorem sM : ∀ (a b : Rows),(lS a b).Sublist a
 | [],_=>by simp [lS]
 | x :: a,b=>by
  rw [lS]
  split
  ·exact (sM a _).cons x
  ·exact (sM a b).cons_cons x
theorem concat2 (x y : Rq) (hx : x.length ≤ 1000000) (hy : y.length ≤ 1000000) : bl [x,y] = some (x ++ y) := by
 unfold bl
 simp only [aE,Int.zero_add]
 rw [bq (n := (x.length : Int)) (by omega) (by omega),zf (show ¬ (x.length : Int) < 0 from by omega)]
 simp only [zd]
 rw [bq (n := (x.length : Int) + (y.length : Int)) (by omega) (by omega),zf (show ¬ (x.length : Int) + (y.length : Int) < 0 from by omega)]
 simp only [zd,bPs,bM]
 rw [rz ⟨by omega,by omega,by unfold maxLen; omega⟩,bPs,ce (by decide) (by simp; omega),bPs]
 simp only [List.nil_append]
 rw [ce (by decide) (by omega)]
 rfl
def gF (f : Rq → Bool) (x : Rq) (b : Rows) : Rows := (b.map fun y=>x ++ y).filter f
def padR (f : Rq → Bool) (left : Bool) (pad x : Rq) (b : Rows) : Rows := if left = true ∧ gF f x b = [] then [x ++ pad] else gF f x b
def jM (f : Rq → Bool) (left : Bool) (pad : Rq) (a b : Rows) : Rows := (a.map fun x=>padR f left pad x b).flatten
theorem match_run (f : Rq → Bool) (e : LExpr) (r : LRun) (cols : List LCol) (ex : List LExpr) (he : aJ ex 0 = some e) (hf : ∀ z,ir (bR (aS r cols z) e) = f z) (x : Rq) (hx : x.length ≤ 1000)
  (b : Rows) (out : Rows) (found : Bool) (hb : ∀ y ∈ b,y.length ≤ 1000) (ho : out.length + b.length ≤ 1000000) :
  aE (σ := Rows × Bool) (ρ := Empty) (fun (_ : Nat) (x6 : Rq) (s6 : Rows × Bool) =>
   af (bl ([x,x6] : Rows)) fun x58 =>
   af (aJ ex 0) fun (x65 : LExpr) =>
   bp (aS r cols x58) fun x62 =>
   bp (bR x62 x65) fun x67 =>
   bp (ir x67) fun x68 =>
   cond x68
    (af (dh 24 s6.1 ([x58] : Rows)) fun (x72 : Rows)=>some (.next (x72,true)))
    (some (.next (s6.1,s6.2)))) 0 b (out,found) = some (.next (out ++ gF f x b,found || !(gF f x b).isEmpty)) := by
 rw [rMa (xs := b) (s := (out,found)) (fun k=>(out ++ gF f x (b.take k),found || !(gF f x (b.take k)).isEmpty)) (by simp [gF]) (fun k y hk=>by
  have hkl := (zg.1 hk).1
  have hm : (gF f x (b.take k)).length ≤ k := by unfold gF; exact Nat.le_trans (List.length_filter_le _ _) (by simp; omega)
  have hs : gF f x (b.take (k + 1)) = gF f x (b.take k) ++ if f (x ++ y) then [x ++ y] else [] := by
   unfold gF
   rw [List.take_add_one,hk,List.map_append,List.filter_append]
   cases h : f (x ++ y) <;> simp [h]
  rw [concat2 x y (by omega) (by have := hb y (gI hk); omega),bPs,he,bPs,hs]
  simp only [bE,hf]
  cases hz : f (x ++ y) with
  | true =>
   rw [zc,ce (by decide) (by simp; omega),bPs]
   simp
  | false=>simp),List.take_length]
theorem padR_len (f : Rq → Bool) (left : Bool) (pad x : Rq) (b : Rows) : (padR f left pad x b).length ≤ max 1 b.length := by
 unfold padR
 split
 ·simp; omega
 ·have : (gF f x b).length ≤ b.length := by
   unfold gF
   exact Nat.le_trans (List.length_filter_le _ _) (by simp)
  omega
theorem sR (f : Rq → Bool) (left : Bool) (pad : Rq) (a b : Rows) : (jM f left pad a b).length ≤ a.length * max 1 b.length := by
 unfold jM
 induction a with
 | nil=>simp
 | cons x a ih =>
  have := padR_len f left pad x b
  simp only [List.map_cons,List.flatten_cons,List.length_append,List.length_cons,Nat.add_mul,Nat.one_mul]
  omega
def eX (key : Rq → Rq) : Rows → Rows → Rows
 | ks,[]=>ks
 | ks,x :: l=>eX key (if key x ∈ ks then ks else ks ++ [key x]) l
theorem keysF_app (key : Rq → Rq) : ∀ (l l' ks : Rows),eX key ks (l ++ l') = eX key (eX key ks l) l'
 | [],_,_=>rfl
 | x :: l,l',ks=>by rw [List.cons_append,eX,keysF_app key l l',eX]
theorem ug (key : Rq → Rq) : ∀ (l ks : Rows),ks.Nodup → (eX key ks l).Nodup
 | [],_,h=>h
 | x :: l,ks,h=>by
  rw [eX]
  refine ug key l _ ?_
  split
  ·exact h
  ·rename_i hx
   rw [List.nodup_append]
   exact ⟨h,by simp,fun a ha b hb hab=>by simp at hb; exact hx (hb ▸ hab ▸ ha)⟩
theorem qi (key : Rq → Rq) : ∀ (l ks : Rows) (k : Rq),k ∈ eX key ks l ↔ k ∈ ks ∨ ∃ x ∈ l,key x = k
 | [],ks,k=>by simp [eX]
 | x :: l,ks,k=>by
  rw [eX,qi key l]
  split
  ·rename_i h
   constructor
   ·rintro (h1 | ⟨y,hy,e⟩)
    ·exact .inl h1
    ·exact .inr ⟨y,by simp [hy],e⟩
   ·rintro (h1 | ⟨y,hy,e⟩)
    ·exact .inl h1
    ·rcases List.mem_cons.1 hy with rfl | hy
     ·exact .inl (e ▸ h)
     ·exact .inr ⟨y,hy,e⟩
  ·constructor
   ·rintro (h1 | ⟨y,hy,e⟩)
    ·rcases List.mem_append.1 h1 with h1 | h1
     ·exact .inl h1
     ·exact .inr ⟨x,by simp,by simp at h1; exact h1.symm⟩
    ·exact .inr ⟨y,by simp [hy],e⟩
   ·rintro (h1 | ⟨y,hy,e⟩)
    ·exact .inl (by simp [h1])
    ·rcases List.mem_cons.1 hy with rfl | hy
     ·exact .inl (by simp [e])
     ·exact .inr ⟨y,hy,e⟩
theorem qm (key : Rq → Rq) : ∀ (l ks : Rows),(eX key ks l).length ≤ ks.length + l.length
 | [],_=>by simp [eX]
 | x :: l,ks=>by
  rw [eX]
  have := qm key l (if key x ∈ ks then ks else ks ++ [key x])
  split at this
  ·rename_i h; rw [zp h]; simp; omega
  ·rename_i h; rw [zy h]; simp at this ⊢; omega
def fq (key : Rq → Rq) (l : Rows) (k : Rq) : Rows := l.filter fun x=>decide (key x = k)
theorem group_run (key : Rq → Rq) (q : LQuery) (r : LRun) (cols : List LCol) (hk : ∀ x,dq r cols x q.exprs = some (key x)) (ks0 : Rows) (hn : ks0.Nodup) (l : Rows) (hl : l.length ≤ 1000000) (hks : ks0.length ≤ 1) :
  aE (σ := Rows × List Rows) (ρ := Empty) (fun (_ : Nat) (x2 : Rq) (s2 : Rows × List Rows) =>
  af (dq r cols x2 q.exprs) fun x38 =>
  af (bF s2.1 (fun a0=>fY a0 x38)) fun x41 =>
  af (eO (x41.2.length = s2.1.length) ()) fun (_ : Unit) =>
  af (
   cond (decide (x41.1 < (0 : Int)))
    (af (dh 24 x41.2 ([x38] : Rows)) fun (x49 : Rows) =>
    af (dh 24 s2.2 ([[]] : List Rows)) fun (x52 : List Rows) =>
    some (x49,x52,(x41.2.length : Int)))
    (some (x41.2,s2.2,x41.1))) fun (t7 : Rows × List Rows × Int) =>
  af (aJ t7.2.1 t7.2.2) fun (x57 : Rows) =>
  af (dh 24 x57 ([x2] : Rows)) fun (x61 : Rows) =>
  af (aJ t7.2.1 t7.2.2) fun (_ : Rows) =>
  bp (t7.2.1.set t7.2.2.toNat x61) fun (y8 : List Rows) =>
  some (.next (t7.1,y8))) 0 l (ks0,ks0.map fun _=>[]) = some (.next (eX key ks0 l,(eX key ks0 l).map (fq key l))) := by
 rw [rMa (xs := l) (s := (ks0,ks0.map fun _=>[])) (fun k=>(eX key ks0 (l.take k),(eX key ks0 (l.take k)).map (fq key (l.take k)))) (by
  show (ks0,ks0.map (fq key [])) = _
  congr 1) (fun k x hkx=>by
   have hkl := (zg.1 hkx).1
   have hlen := qm key (l.take k) ks0
   have hlen2 : (eX key ks0 (l.take k)).length ≤ 1 + k := by simp at hlen; omega
   have hnd := ug key (l.take k) ks0 hn
   have hmem : ∀ y ∈ l.take k,key y ∈ eX key ks0 (l.take k) := fun y hy=>(qi key _ _ _).2 (.inr ⟨y,hy,rfl⟩)
   have hsucc : l.take (k + 1) = l.take k ++ [x] := by rw [List.take_add_one,hkx]; rfl
   rw [hsucc,keysF_app]
   generalize hK : eX key ks0 (l.take k) = K at *
   have hgl : ∀ kk,(fq key (l.take k) kk).length ≤ k := fun kk=>by
    unfold fq
    exact Nat.le_trans (List.length_filter_le _ _) (by simp; omega)
   rw [hk x,bPs,idxO K (fun y=>decide (key x = y)) _ (fun y _=>by unfold fY; rw [equalRow]; rfl) (by omega),bPs]
   simp only
   rw [cO trivial,bPs]
   have hg : ∀ kk,fq key (l.take k ++ [x]) kk = fq key (l.take k) kk ++ if key x = kk then [x] else [] := fun kk=>by
    unfold fq
    rw [List.filter_append]
    congr 1
    by_cases h : key x = kk <;> simp [h]
   by_cases hx : key x ∈ K
   ·have hany : decide (aK (fun y=>decide (key x = y)) K < 0) = false := by
     have : decide (aK (fun y=>decide (key x = y)) K ≥ 0) = true := by rw [iz,List.any_eq_true]; exact ⟨_,hx,by simp⟩
     have := of_decide_eq_true this
     exact zf (by omega)
    have h0 : 0 ≤ aK (fun y=>decide (key x = y)) K := by have := of_decide_eq_false hany; omega
    obtain ⟨i,hi⟩ : ∃ i : Nat,aK (fun y=>decide (key x = y)) K = i := ⟨(aK (fun y=>decide (key x = y)) K).toNat,by omega⟩
    obtain ⟨z,hz,hzk⟩ := mp h0
    rw [hi,Int.toNat_natCast] at hz
    have hzk : key x = z := by simpa using hzk
    subst hzk
    have hiK := (zg.1 hz).1
    rw [hany,zd,bPs,hi]
    simp only
    have hgi : (K.map (fq key (l.take k)))[i]? = some (fq key (l.take k) (key x)) := by rw [List.getElem?_map,hz]; rfl
    rw [ma hgi,bPs,ce (by decide) (by have := hgl (key x); simp; omega),bPs,bPs,bE,Int.toNat_natCast]
    congr 3
    ·simp [eX,hx]
    ·have hkk : eX key K [x] = K := by simp [eX,hx]
     rw [hkk]
     apply List.ext_getElem?
     intro j
     rw [List.getElem?_set,List.getElem?_map]
     by_cases hij : i = j
     ·subst hij
      rw [zp rfl,zp (by simpa using hiK),List.getElem?_map,hz,Option.map_some,hg,zp rfl]
     ·rw [zy hij,List.getElem?_map]
      cases hj : K[j]? with
      | none=>rfl
      | some w =>
       simp only [Option.map_some]
       have hne : key x ≠ w := fun he=>by
        subst he
        have hjK := (zg.1 hj).1
        rw [List.nodup_iff_pairwise_ne,List.pairwise_iff_getElem] at hnd
        have e1 := (zg.1 hz).2
        have e2 := (zg.1 hj).2
        rcases Nat.lt_or_gt_of_ne hij with h | h
        ·exact hnd i j hiK hjK h (by rw [e1,e2])
        ·exact hnd j i hjK hiK h (by rw [e1,e2])
       rw [hg,zy hne,List.append_nil]
   ·have hany : decide (aK (fun y=>decide (key x = y)) K < 0) = true := by
     have : decide (aK (fun y=>decide (key x = y)) K ≥ 0) = false := by
      rw [iz,List.any_eq_false]
      intro y hy he
      have : key x = y := by simpa using he
      exact hx (this ▸ hy)
     have := of_decide_eq_false this
     exact zt (by omega)
    rw [hany,zc,ce (by decide) (by simp; omega),bPs,ce (by decide) (by simp; omega),bPs,bPs]
    simp only
    have hgi : (K.map (fq key (l.take k)) ++ [[]])[K.length]? = some [] := by
     rw [List.getElem?_append_right (by simp),zl,Nat.sub_self]; rfl
    rw [ma hgi,bPs,ce (by decide) (by simp),bPs,bPs,bE,Int.toNat_natCast]
    have hkk : eX key K [x] = K ++ [key x] := by simp [eX,hx]
    rw [hkk]
    congr 3
    have hold : fq key (l.take k) (key x) = [] := by
     unfold fq
     rw [List.filter_eq_nil_iff]
     intro y hy he
     have : key y = key x := by simpa using he
     exact hx (this ▸ hmem y hy)
    rw [List.map_append,List.set_append_right _ _ (by simp),zl,Nat.sub_self]
    congr 1
    ·apply List.map_congr_left
     intro w hw
     have hne : key x ≠ w := fun he=>hx (he ▸ hw)
     rw [hg,zy hne,List.append_nil]
    ·simp [hg,hold])]
 rw [List.take_length]
def ly (op : List UInt8) (s : Int × LVal) (v : LVal) : Int × LVal := (IntKind.i64.wrap (s.1 + v.int),if (op = sMin ∧ lT v s.2 = true) ∨ (op = sMax ∧ lT s.2 v = true) then v else s.2)
def rI (op : List UInt8) (l : Rq) : LVal :=
 if op = il then fR l.length else match l with
  | []=>.nul
  | v :: _=>if op = sSum then fR (l.foldl (ly op) (0,v)).1 else (l.foldl (ly op) (0,v)).2
theorem compute_eq (op : List UInt8) (l : Rq) : fI op l = some (rI op l) := by
 unfold fI rI
 by_cases h1 : op = il
 ·subst h1; rfl
 ·have e1 : (op == ([99,111,117,110,116] : List UInt8)) = false := by simpa using h1
  rw [e1,zd,zy h1]
  cases l with
  | nil=>rfl
  | cons v l =>
   have e2 : (((v :: l).length : Int) == 0) = false := cE (by simp; omega)
   rw [e2,zd]
   have e3 : aJ (v :: l) 0 = some v := rfl
   rw [e3,bPs]
   rw [nM (xs := v :: l) (ly op) (fun k x _=>by
    generalize (((v :: l).take k).foldl (ly op) (0,v)) = s
    unfold ly
    by_cases m : op = sMin
    ·subst m
     simp only [bE]
     cases lT x s.2 <;> simp
    ·have em : (op == ([109,105,110] : List UInt8)) = false := by simpa using m
     rw [em,zd]
     by_cases n : op = sMax
     ·subst n
      simp only [bE]
      cases lT s.2 x <;> simp
     ·have en : (op == ([109,97,120] : List UInt8)) = false := by simpa using n
      rw [en,zd]
      simp [m,n]),bPs,bM]
   by_cases h2 : op = sSum
   ·subst h2; rfl
   ·have e4 : (op == ([115,117,109] : List UInt8)) = false := by simpa using h2
    rw [e4,zd]
    simp only
    rw [zy h2]
def aggR (r : LRun) (cols : List LCol) (a : LAggregateCall) (l : Rows) : LVal := match a.args with
 | []=>fR l.length
 | e :: _=>rI a.function ((l.map fun x=>bR (aS r cols x) e).filter fun v=>v.kind != 0)
theorem aggR_eq (r : LRun) (cols : List LCol) (a : LAggregateCall) (l : Rows) (hl : l.length ≤ 1000000) : jN r a cols l = some (aggR r cols a l) := by
 unfold jN aggR
 cases ha : a.args with
 | nil=>rfl
 | cons e es =>
  have e2 : (((e :: es).length : Int) == 0) = false := cE (by simp; omega)
  rw [e2,zd]
  rw [rMa (xs := l) (s := []) (fun k=>((l.take k).map fun x=>bR (aS r cols x) e).filter fun v=>v.kind != 0) rfl (fun k x hk=>by
   have hkl := (zg.1 hk).1
   have e3 : aJ (e :: es) 0 = some e := rfl
   rw [e3]
   simp only [bPs,bE]
   have hb : (((l.take k).map fun x=>bR (aS r cols x) e).filter fun v=>v.kind != 0).length ≤ k := Nat.le_trans (List.length_filter_le _ _) (by simp; omega)
   rw [List.take_add_one,hk,List.map_append,List.filter_append]
   cases hv : (bR (aS r cols x) e).kind != 0 with
   | true =>
    rw [zc,ce (by decide) (by simp at hb ⊢; omega),bPs]
    simp [hv]
   | false=>simp [hv]),bPs,bM,List.take_length,compute_eq]
  rfl
def nZ (r : LRun) (cols : List LCol) (q : LQuery) (l : Rows) : Rows :=
 (eX (fun x=>q.exprs.map fun e=>bR (aS r cols x) e) (if q.exprs = [] then [[]] else []) l).map fun k =>
  k ++ q.aggregates.map fun a=>aggR r cols a (fq (fun x=>q.exprs.map fun e=>bR (aS r cols x) e) l k)
theorem group_eq (r : LRun) (cols : List LCol) (q : LQuery) (l : Rows) (hl : l.length ≤ 999999) (he : q.exprs.length ≤ 1000000) (ha : q.aggregates.length ≤ 1000000) : iU r q cols l = some (nZ r cols q l) := by
 unfold iU nZ
 generalize hkey : (fun x=>q.exprs.map fun e=>bR (aS r cols x) e) = key
 have hk : ∀ x,dq r cols x q.exprs = some (key x) := fun x=>by rw [rp r cols x q.exprs (by omega),← hkey]
 have hinit : (cond ((q.exprs.length : Int) == (0 : Int)) (([[]],[[]])) (([],[])) : Rows × List Rows) = ((if q.exprs = [] then [[]] else []),((if q.exprs = [] then [[]] else []) : Rows).map fun _=>[]) := by
  cases q.exprs with
  | nil=>rfl
  | cons e es=>rw [show (((e :: es).length : Int) == 0) = false from cE (by simp; omega)]; rfl
 rw [bE,hinit]
 generalize hks : (if q.exprs = [] then [[]] else [] : Rows) = ks0
 have hks1 : ks0.length ≤ 1 := by rw [← hks]; split <;> simp
 have hks2 : ks0.Nodup := by rw [← hks]; split <;> simp
 rw [group_run key q r cols hk ks0 hks2 l (by omega) hks1,bPs,bM]
 generalize hK : eX key ks0 l = K
 have hKl : K.length ≤ 1000000 := by rw [← hK]; have := qm key l ks0; omega
 simp only
 rw [cO (by rw [zl]; omega),bPs,qc (by omega),bPs,Int.toNat_natCast]
 have hgl : ∀ kk,(fq key l kk).length ≤ 1000000 := fun kk=>by
  unfold fq
  exact Nat.le_trans (List.length_filter_le _ _) (by omega)
 have hkl : ∀ k ∈ K,k.length ≤ 1000000 := fun k hkm=>by
  rw [← hK] at hkm
  rcases (qi key l ks0 k).1 hkm with h | ⟨x,_,rfl⟩
  ·rw [← hks] at h
   split at h
   ·simp at h; subst h; simp
   ·simp at h
  ·rw [← hkey]; simpa using he
 rw [rMa (xs := List.range K.length) (s := []) (fun j=>(K.take j).map fun k=>k ++ q.aggregates.map fun a=>aggR r cols a (fq key l k)) rfl (fun j n hj=>by
  obtain ⟨hjl,hjn⟩ := zg.1 hj
  simp at hjl
  rw [hO hjl,bPs]
  have hg : (K.map (fq key l))[j]? = some (fq key l K[j]) := by rw [List.getElem?_map,ze hjl]; rfl
  rw [rMa (xs := q.aggregates) (s := K[j]) (fun i=>K[j] ++ (q.aggregates.take i).map fun a=>aggR r cols a (fq key l K[j])) (by simp) (fun i a hi=>by
   have hil := (zg.1 hi).1
   have hkj := hkl K[j] (List.getElem_mem hjl)
   rw [ma hg,bPs,aggR_eq r cols a _ (hgl _),bPs,ce (by decide) (by simp; omega),bPs,List.take_add_one,hi]
   simp),bPs,bM,ce (by decide) (by simp; omega),bPs,List.take_length]
  congr 2
  rw [List.take_add_one,ze hjl,List.map_append]
  rfl),bPs,bM]
 simp
def kY (x : LVal) : LVal := if eG x = true then x else .nul
theorem typed_args {cols vars : List LCol} {e : LExpr} (h : (cW cols vars e).2.2 = 0) : e.kind = 5 ∧ (∀ a ∈ e.args,(cW cols vars a).2.2 = 0) ∨ e.kind ≠ 5 ∧ e.args = [] := by
 rw [rk] at h
 by_cases c0 : e.kind ≠ 5 ∧ 0 < e.args.length
 ·rw [zp c0] at h; simp [gp] at h
 rw [zy c0] at h
 by_cases c5 : e.kind = 5
 ·refine .inl ⟨c5,fun a ha=>?_⟩
  simp only [c5] at h
  have h' : (jE e.name e.index e.value (e.args.map (cW cols vars))).2.2 = 0 := by simpa using h
  unfold jE at h'
  split at h'
  ·simp [gp] at h'
  ·split at h'
   ·rename_i r hf
    have := List.find?_some hf
    simp [gp] at h'
    simp [h'] at this
   ·rename_i hf
    have := List.find?_eq_none.1 hf (cW cols vars a) (List.mem_map.2 ⟨a,ha,rfl⟩)
    simpa using this
 ·refine .inr ⟨c5,?_⟩
  rw [← List.length_eq_zero_iff]
  omega
theorem eval_clean {cols vars : List LCol} {v : LEnv} : ∀ e : LExpr,(cW cols vars e).2.2 = 0 → (∀ i k,(i,k) ∈ cz e → ∀ x,v.params[i]? = some x → eG x = true) → bR v e = bR { v with params := v.params.map kY } e := by
 refine LExpr.ind fun e ih h hp=>?_
 have hsub : ∀ a ∈ e.args,∀ i k,(i,k) ∈ cz a → (i,k) ∈ cz e := fun a ha i k hm=>by
  rw [mG]
  exact List.mem_append_right _ (List.mem_flatten.2 ⟨_,List.mem_map.2 ⟨a,ha,rfl⟩,hm⟩)
 rw [rJ,rJ { v with params := v.params.map kY }]
 by_cases k1 : (e.kind == 1) = true
 ·simp [k1]
 by_cases k2 : (e.kind == 2) = true
 ·simp [k1,k2]
 by_cases k3 : (e.kind == 3) = true
 ·rw [zy k1,zy k2,zp k3,zy k1,zy k2,zp k3]
  have hk3 : e.kind = 3 := by simpa using k3
  have hta := typed_args h
  have hr : ¬ (e.index < 0 ∨ e.index ≥ 8) := by
   intro hbad
   rw [rk,zy (by intro hc; rcases hta with ⟨a,_⟩ | ⟨_,b⟩; exact hc.1 a; rw [b] at hc; simp at hc),zy k1,zp k3,zp (by rcases hbad with hb | hb; exact .inl hb; exact .inr (.inl hb))] at h
   simp [gp] at h
  have hm : (e.index.toNat,e.value.kind) ∈ cz e := by
   rw [mG]
   refine List.mem_append_left _ ?_
   unfold jd
   rw [zp ⟨hk3,by omega,by omega⟩]
   simp
  have hget : ∀ i : Nat,i < v.params.length → i = e.index.toNat → (v.params.map kY).getD i .nul = v.params.getD i .nul := fun i hi he=>by
   rw [List.getD_eq_getElem?_getD,List.getD_eq_getElem?_getD,List.getElem?_map,ze hi]
   simp only [Option.map_some,Option.getD_some]
   unfold kY
   rw [zp (hp _ _ hm v.params[i] (by rw [← he]; exact ze hi))]
  by_cases hlt : e.index.toNat < v.params.length
  ·show _ = if 0 ≤ e.index ∧ e.index < ((v.params.map kY).length : Nat) ∧ ((v.params.map kY).getD e.index.toNat .nul).kind = e.value.kind then (v.params.map kY).getD e.index.toNat .nul else .nul
   rw [hget _ hlt rfl,zl]
  ·have : ¬ (0 ≤ e.index ∧ e.index < (v.params.length : Int)) := by omega
   show _ = if 0 ≤ e.index ∧ e.index < ((v.params.map kY).length : Nat) ∧ ((v.params.map kY).getD e.index.toNat .nul).kind = e.value.kind then (v.params.map kY).getD e.index.toNat .nul else .nul
   rw [zl,zy (fun hc=>this ⟨hc.1,hc.2.1⟩),zy (fun hc=>this ⟨hc.1,hc.2.1⟩)]
 by_cases k4 : (e.kind == 4) = true
 ·simp [k1,k2,k3,k4]
 by_cases k5 : (e.kind == 5) = true
 ·rw [zy k1,zy k2,zy k3,zy k4,zp k5,zy k1,zy k2,zy k3,zy k4,zp k5]
  rcases typed_args h with ⟨_,ha⟩ | ⟨hn,_⟩
  ·congr 1
   apply List.map_congr_left
   intro a hm
   exact ih a hm (ha a hm) fun i k hik=>hp i k (hsub a hm i k hik)
  ·exact absurd (by simpa using k5) hn
 ·simp [k1,k2,k3,k4,k5]
structure RunOk (r : LRun) : Prop where
 vars : r.vars = []
 names : r.names = []
 vals : r.vals = []
 inst : InstOk r.s r.st
def nD (r : LRun) (l : List (Nat × Int)) : Prop := ∀ i k,(i,k) ∈ l → ∀ x,r.args[i]? = some x → eG x = true
theorem sG {r : LRun} (hr : RunOk r) {cols : List LCol} {row : Rq} (hrow : dY cols row) {e : LExpr} (ht : (cI cols r.vars e).2.2 = 0) (hp : nD r (cz e)) :
  fC (bR (aS r cols row) e) (cI cols r.vars e).1 (cI cols r.vars e).2.1 := by
 have hk : (cW cols r.vars e).2.2 = 0 := by
  unfold cI at ht
  split at ht
  ·simp [gp] at ht
  ·exact ht
 rw [eval_clean (cols := cols) (vars := r.vars) e hk (fun i k hm x hx=>hp i k hm x hx)]
 refine type_sound (cols := cols) (vars := r.vars) ⟨rfl,hrow.1,hrow.2,?_,?_,?_,?_⟩ e ht
 ·intro x hx
  obtain ⟨y,_,rfl⟩ := List.mem_map.1 hx
  unfold kY
  split
  ·assumption
  ·rfl
 ·show r.names = _; rw [hr.names,hr.vars]; rfl
 ·show r.vals.length = _; rw [hr.vals,hr.vars]; rfl
 ·intro i c x hc; rw [hr.vars] at hc; simp at hc
theorem mf {c : LChecker} {q : LQuery} (h : (fo c q).2 = 0) : lG q = true ∧ (∀ x ∈ q.inputs,(fo c x).2 = 0) ∧ (iD c q (q.inputs.map fun x=>(fo c x).1)).2 = 0 ∧ (fo c q).1 = (iD c q (q.inputs.map fun x=>(fo c x).1)).1 ∧ ((fo c q).1.map LCol.name).Nodup := by
 rw [colsQ_eq] at h ⊢
 unfold pz at h ⊢
 by_cases h1 : lG q = false
 ·simp [h1] at h
 rw [zy h1] at h ⊢
 by_cases h2 : (dG (q.inputs.map (fo c))).2 = 0
 ·obtain ⟨a,b⟩ := rD h2
  have e : (q.inputs.map (fo c)).map (·.1) = q.inputs.map fun x=>(fo c x).1 := by rw [List.map_map]; rfl
  rw [e] at b
  rw [b] at h ⊢
  rw [zy (by simpa using h2)] at h ⊢
  by_cases h3 : (iD c q (q.inputs.map fun x=>(fo c x).1)).2 = 0
  ·rw [zy (by simpa using h3)] at h ⊢
   by_cases h4 : 20 < (iD c q (q.inputs.map fun x=>(fo c x).1)).1.length
   ·rw [zp h4] at h; simp at h
   ·rw [zy h4] at h ⊢
    by_cases h5 : ((iD c q (q.inputs.map fun x=>(fo c x).1)).1.map LCol.name).Nodup
    ·rw [zp h5] at h ⊢
     exact ⟨by simpa using h1,fun x hx=>a _ (List.mem_map.2 ⟨x,hx,rfl⟩),h3,rfl,h5⟩
    ·rw [zy h5] at h; simp at h
  ·rw [zp h3] at h; exact absurd h h3
 ·rw [zp h2] at h; exact absurd h h2
theorem nJ (vars cols : List LCol) : ∀ (es : List LExpr) (ns : List (List UInt8)),es.length = ns.length → (ck vars cols es ns).2 = 0 →
  (ck vars cols es ns).1.length = es.length ∧ ∀ (i : Nat) (e : LExpr),es[i]? = some e → (cI cols vars e).2.2 = 0 ∧ ∃ c,(ck vars cols es ns).1[i]? = some c ∧ c.kind = (cI cols vars e).1 ∧ c.nullable = (cI cols vars e).2.1
 | [],ns,_,_=>by simp [ck]
 | e :: es,[],h,_=>by simp at h
 | e :: es,n :: ns,hl,h=>by
  simp only [ck] at h ⊢
  by_cases h1 : db n = false
  ·simp [h1] at h
  rw [zy h1] at h ⊢
  by_cases h2 : (cI cols vars e).2.2 = 0
  ·rw [zy (by simpa using h2)] at h ⊢
   by_cases h3 : (cI cols vars e).1 = 0
   ·rw [zp h3] at h; simp at h
   ·rw [zy h3] at h ⊢
    by_cases h4 : (ck vars cols es ns).2 = 0
    ·rw [zy (by simpa using h4)]
     obtain ⟨a,b⟩ := nJ vars cols es ns (by simpa using hl) h4
     refine ⟨by simp [a],fun i e' hi=>?_⟩
     cases i with
     | zero=>simp at hi; subst hi; exact ⟨h2,_,rfl,rfl,rfl⟩
     | succ i=>simpa using b i e' (by simpa using hi)
    ·rw [zp h4] at h; exact absurd h h4
  ·rw [zp h2] at h; exact absurd h h2
theorem rU (vars cols : List LCol) : ∀ l : List LAggregateCall,(dM vars cols l).2 = 0 →
  (dM vars cols l).1.length = l.length ∧ ∀ (i : Nat) (a : LAggregateCall),l[i]? = some a → (oD vars cols a).2 = 0 ∧ ∃ c,(dM vars cols l).1[i]? = some c ∧ c.kind = (oD vars cols a).1 ∧ c.nullable = !(a.function == il)
 | [],_=>by simp [dM]
 | a :: l,h=>by
  simp only [dM] at h ⊢
  by_cases h1 : (oD vars cols a).2 = 0
  ·rw [zy (by simpa using h1)] at h ⊢
   by_cases h2 : (dM vars cols l).2 = 0
   ·rw [zy (by simpa using h2)]
    obtain ⟨x,y⟩ := rU vars cols l h2
    refine ⟨by simp [x],fun i b hi=>?_⟩
    cases i with
    | zero=>simp at hi; subst hi; exact ⟨h1,_,rfl,rfl,rfl⟩
    | succ i=>simpa using y i b (by simpa using hi)
   ·rw [zp h2] at h; exact absurd h h2
  ·rw [zp h1] at h; exact absurd h h1
theorem dY.append {a b : List LCol} {x y : Rq} (h : dY a x) (h' : dY b y) : dY (a ++ b) (x ++ y) := by
 refine ⟨by simp [h.1,h'.1],fun i c v hc hv=>?_⟩
 by_cases hi : i < a.length
 ·rw [List.getElem?_append_left hi] at hc
  rw [List.getElem?_append_left (by rw [h.1]; exact hi)] at hv
  exact h.2 i c v hc hv
 ·rw [List.getElem?_append_right (by omega)] at hc
  rw [List.getElem?_append_right (by rw [h.1]; omega),h.1] at hv
  exact h'.2 _ c v hc hv
theorem dY.map {cols : List LCol} {es : List LExpr} {f : LExpr → LVal} (hl : cols.length = es.length) (h : ∀ (i : Nat) (e : LExpr) (c : LCol),es[i]? = some e → cols[i]? = some c → fC (f e) c.kind c.nullable) : dY cols (es.map f) := by
 refine ⟨by simp [hl],fun i c x hc hx=>?_⟩
 rw [List.getElem?_map,Option.map_eq_some_iff] at hx
 obtain ⟨e,he,rfl⟩ := hx
 exact h i e c he hc
theorem fC.weak {x : LVal} {k : Int} {nl nl' : Bool} (h : fC x k nl) (hn : nl = true → nl' = true) : fC x k nl' := ⟨h.1,h.2.1,fun h0=>hn (h.2.2 h0)⟩
theorem int_fits (n : Int) : fC (fR n) 1 true := by
 unfold fR
 by_cases h1 : n < -1000000000000
 ·rw [zt h1]; exact iu rfl
 ·rw [zf h1]
  by_cases h2 : n > 1000000000000
  ·rw [zt h2]; exact iu rfl
  ·rw [zf h2]
   refine ⟨?_,.inl rfl,fun h=>by simp at h⟩
   unfold eG
   simp
   omega
theorem int_small {n : Int} (h0 : 0 ≤ n) (h1 : n ≤ 1000000000000) (nl : Bool) : fC (fR n) 1 nl := by
 have h := int_fits n
 refine ⟨h.1,h.2.1,fun hk=>?_⟩
 unfold fR at hk
 rw [zf (show ¬ n < -1000000000000 from by omega),zf (show ¬ n > 1000000000000 from by omega)] at hk
 simp at hk
theorem tR (op : List UInt8) : ∀ (l : Rq) (s : Int × LVal),(l.foldl (ly op) s).2 = s.2 ∨ (l.foldl (ly op) s).2 ∈ l
 | [],s=>.inl rfl
 | v :: l,s=>by
  rw [List.foldl_cons]
  rcases tR op l (ly op s v) with h | h
  ·rw [h]
   unfold ly
   simp only
   split
   ·exact .inr (by simp)
   ·exact .inl rfl
  ·exact .inr (by simp [h])
theorem agg_fits {r : LRun} (hr : RunOk r) {cols : List LCol} {a : LAggregateCall} {l : Rows} (ha : (oD r.vars cols a).2 = 0) (hl : ∀ row ∈ l,dY cols row) (hb : l.length ≤ 1000000) (hp : nD r ((a.args.map cz).flatten)) :
  fC (aggR r cols a l) (oD r.vars cols a).1 (!(a.function == il)) := by
 unfold oD at ha ⊢
 unfold aggR
 by_cases h1 : db a.name = false ∨ ¬ a.function ∈ [il,sSum,sMin,sMax] ∨ 1 < a.args.length ∨ (a.args.length < 1 ∧ a.function ≠ il)
 ·rw [zp h1] at ha; simp at ha
 rw [zy h1] at ha ⊢
 have hfn : a.function ∈ [il,sSum,sMin,sMax] := Decidable.byContradiction fun h=>h1 (.inr (.inl h))
 cases hargs : a.args with
 | nil=>exact int_small (by omega) (by omega) _
 | cons e es =>
  rw [hargs] at ha hp
  simp only at ha ⊢
  have hpe : nD r (cz e) := fun i k hm=>hp i k (by simp [hm])
  by_cases h2 : (cI cols r.vars e).2.2 = 0
  ·rw [zy (by simpa using h2)] at ha ⊢
   by_cases h3 : (cI cols r.vars e).1 = 0 ∨ (a.function = sSum ∧ (cI cols r.vars e).1 ≠ 1)
   ·rw [zp h3] at ha; simp at ha
   rw [zy h3]
   generalize hv : ((l.map fun x=>bR (aS r cols x) e).filter fun v=>v.kind != 0) = vals
   have hvl : vals.length ≤ 1000000 := by rw [← hv]; exact Nat.le_trans (List.length_filter_le _ _) (by simpa using hb)
   have hvf : ∀ v ∈ vals,fC v (cI cols r.vars e).1 true := fun v hm=>by
    rw [← hv] at hm
    have := (List.mem_filter.1 hm).1
    obtain ⟨x,hx,rfl⟩ := List.mem_map.1 this
    exact (sG hr (hl x hx) h2 hpe).weak fun _=>rfl
   unfold rI
   by_cases h4 : a.function = il
   ·rw [zp h4,zp h4]
    exact int_small (by omega) (by omega) _
   ·rw [zy h4,zy h4]
    have hc : (a.function == il) = false := by simpa using h4
    rw [hc]
    cases vals with
    | nil=>exact iu rfl
    | cons v vs =>
     simp only
     by_cases h5 : a.function = sSum
     ·rw [zp h5]
      have : (cI cols r.vars e).1 = 1 := Decidable.byContradiction fun h=>h3 (.inr ⟨h5,h⟩)
      rw [this]
      exact int_fits _
     ·rw [zy h5]
      rcases tR a.function (v :: vs) (0,v) with h | h
      ·rw [h]; exact hvf v (by simp)
      ·exact hvf _ h
  ·rw [zp h2] at ha; exact absurd ha h2
theorem capI_eq {n : Int} (h : nL n ≤ 20000) : nL n = n := by
 unfold nL at h ⊢
 by_cases hc : 20001 < n
 ·rw [zp hc] at h; omega
 ·rw [zy hc]
theorem gD {q : LQuery} (h : (bD q).2 ≤ 20000) : (bD q).1 ≤ (bD q).2 ∧ ∀ x ∈ q.inputs,(bD x).2 ≤ 20000 := by
 have key : ∀ (l : List (Int × Int)) (j : Nat) (s : Int × Int),s.2 ≤ (ew q.kind j l s).2 ∧ ∀ x ∈ l,x.2 ≤ (ew q.kind j l s).2 := by
  intro l
  induction l with
  | nil=>intro j s; exact ⟨Int.le_refl _,by simp⟩
  | cons y l ih =>
   intro j s
   obtain ⟨h1,h2⟩ := ih (j + 1) (iR q.kind s j y)
   rw [ew]
   have h3 : s.2 ≤ (iR q.kind s j y).2 := jn _ _
   have h4 : y.2 ≤ (iR q.kind s j y).2 := oj _ _
   refine ⟨by omega,fun x hx=>?_⟩
   rcases List.mem_cons.1 hx with rfl | hx
   ·omega
   ·exact h2 x hx
 have hk := key (q.inputs.map bD) 0 (0,0)
 rw [nH] at h ⊢
 by_cases h1 : q.kind = 1
 ·rw [zp h1] at h ⊢
  refine ⟨oj _ _,fun x hx=>?_⟩
  have := hk.2 (bD x) (List.mem_map.2 ⟨x,hx,rfl⟩)
  have := jn (ew q.kind 0 (q.inputs.map bD) (0,0)).2 24
  simp only at h
  omega
 ·rw [zy h1] at h ⊢
  refine ⟨oj _ _,fun x hx=>?_⟩
  have := hk.2 (bD x) (List.mem_map.2 ⟨x,hx,rfl⟩)
  have := jn (ew q.kind 0 (q.inputs.map bD) (0,0)).2 (ew q.kind 0 (q.inputs.map bD) (0,0)).1
  simp only at h
  omega
theorem most_scan {q : LQuery} (h : q.kind = 1) : (bD q).1 = 24 := by rw [nH,zp h]
theorem pG {q x : LQuery} (h : (bD q).2 ≤ 20000) (hk : q.kind ≠ 1) (hi : q.inputs = [x]) : (bD q).1 = (bD x).1 := by
 have hm := gD h
 have hx := hm.2 x (by rw [hi]; simp)
 have hx1 := (gD hx).1
 rw [nH,zy hk,hi]
 show nL (bD x).1 = _
 unfold nL
 rw [zy (by omega)]
theorem nE {q x y : LQuery} (h : (bD q).2 ≤ 20000) (hk : q.kind ≠ 1) (hi : q.inputs = [x,y]) : (bD q).1 = (if q.kind = 6 then (bD x).1 + (bD y).1 else if q.kind = 4 ∨ q.kind = 5 then (bD x).1 * dg 1 (bD y).1 else (bD x).1) := by
 have hm := gD h
 have hx := hm.2 x (by rw [hi]; simp)
 have hx1 := (gD hx).1
 have h1 := hm.1
 have hc : nL (bD x).1 = (bD x).1 := by unfold nL; rw [zy (by omega)]
 have e : (bD q).1 = nL (if q.kind = 6 then (bD x).1 + (bD y).1 else if q.kind = 4 ∨ q.kind = 5 then (bD x).1 * dg 1 (bD y).1 else (bD x).1) := by
  rw [nH,zy hk,hi]
  show (iR q.kind (iR q.kind (0,0) 0 (bD x)) 1 (bD y)).1 = _
  unfold iR
  simp [hc]
 rw [e]
 exact capI_eq (by rw [← e]; omega)
def be (r : LRun) (q : LQuery) : List LCol := (fo ⟨r.s,r.vars⟩ q).1
theorem lz {r : LRun} {q : LQuery} (h : SmallQ q) : gC r q = some (be r q) := by
 unfold gC
 rw [cols_ok _ q h]
 rfl
def ie (r : LRun) (cols : List LCol) (q : LQuery) (x : Rq) : Bool := ir (bR (aS r cols x) (e0Q q))
def qT (q : LQuery) (l : Rows) : Rows := (l.take (q.offset.toNat + q.count.toNat)).drop q.offset.toNat
def dI (r : LRun) (q : LQuery) (cs : List (List LCol)) (ins : List Rows) : Rows :=
 if q.kind = 1 then (match r.st.find? fun x=>x.table == q.table with | some x=>x.rows | none=>[])
 else if q.kind = 4 ∨ q.kind = 5 then jM (ie r (cs.getD 0 [] ++ cs.getD 1 []) q) (q.kind == 5) (List.replicate (cs.getD 1 []).length .nul) (ins.getD 0 []) (ins.getD 1 [])
 else if q.kind = 6 then ins.getD 0 [] ++ ins.getD 1 []
 else if q.kind = 7 then lS (ins.getD 0 []) (ins.getD 1 [])
 else if q.kind = 2 then (ins.getD 0 []).filter (ie r (cs.getD 0 []) q)
 else if q.kind = 3 then (ins.getD 0 []).map fun x=>q.exprs.map fun e=>bR (aS r (cs.getD 0 []) x) e
 else if q.kind = 8 then nZ r (cs.getD 0 []) q (ins.getD 0 [])
 else if q.kind = 9 then (fM r q (cs.getD 0 []) (ins.getD 0 [])).getD []
 else qT q (ins.getD 0 [])
def aZ (r : LRun) (q : LQuery) : Rows := dI r q (q.inputs.map (be r)) (q.inputs.attach.map fun x=>aZ r x.1)
termination_by SizeOf.sizeOf q
decreasing_by exact LQuery.inputs_lt x.2
theorem ep (r : LRun) (q : LQuery) : aZ r q = dI r q (q.inputs.map (be r)) (q.inputs.map (aZ r)) := by
 rw [aZ,List.attach_map_val (f := aZ r)]
theorem find_st {s : LSchema} {st : List LRelation} (h : InstOk s st) (name : List UInt8) : ∀ t,s.tables.find? (fun t=>t.name == name) = some t → ∃ x,st.find? (fun x=>x.table == name) = some x ∧ x.rows.length ≤ 24 ∧ ∀ row ∈ x.rows,dY t.columns row := by
 obtain ⟨hl,ho,ht⟩ := h
 intro t hf
 generalize s.tables = ts at *
 induction ts generalizing st with
 | nil=>simp at hf
 | cons a ts ih =>
  cases st with
  | nil=>simp at hl
  | cons r st =>
   obtain ⟨h1,h2,h3⟩ := ht 0 r a rfl rfl
   rw [List.find?_cons] at hf ⊢
   rw [h1]
   cases hn : a.name == name with
   | true =>
    rw [hn] at hf
    simp at hf
    subst hf
    exact ⟨r,rfl,h2,h3⟩
   | false =>
    rw [hn] at hf
    simp only at hf ⊢
    exact ih (by simpa using hl) (fun i r' t' a b=>ho (i + 1) r' t' (by simpa using a) (by simpa using b)) (fun i r' t' a b=>ht (i + 1) r' t' (by simpa using a) (by simpa using b)) hf
structure RowsOk (r : LRun) (q : LQuery) : Prop where
 pos : 1 ≤ (bD q).1
 len : ((aZ r q).length : Int) ≤ (bD q).1
 fits : ∀ row ∈ aZ r q,dY (be r q) row
structure QOk (r : LRun) (q : LQuery) : Prop where
 small : SmallQ q
 cols : (fo ⟨r.s,r.vars⟩ q).2 = 0
 most : (bD q).2 ≤ 20000
 params : nD r (iL q)
theorem params_sub {q x : LQuery} (h : x ∈ q.inputs) : ∀ p ∈ iL x,p ∈ iL q := by
 intro p hp
 obtain ⟨l,hl,hp⟩ := List.mem_flatten.1 hp
 obtain ⟨y,hy,rfl⟩ := List.mem_map.1 hl
 exact List.mem_flatten.2 ⟨_,List.mem_map.2 ⟨y,mem_nodes h hy,rfl⟩,hp⟩
theorem QOk.sub {r : LRun} {q x : LQuery} (h : QOk r q) (hx : x ∈ q.inputs) : QOk r x :=
 ⟨h.small.sub hx,(mf h.cols).2.1 x hx,(gD h.most).2 x hx,fun i k hm=>h.params i k (params_sub hx _ hm)⟩
theorem QOk.expr {r : LRun} {q : LQuery} (h : QOk r q) {e : LExpr} (he : e ∈ q.exprs) : nD r (cz e) := fun i k hm=>h.params i k (List.mem_flatten.2 ⟨jf q,List.mem_map.2 ⟨q,rg q,rfl⟩,List.mem_append_left _ (List.mem_flatten.2 ⟨_,List.mem_map.2 ⟨e,he,rfl⟩,hm⟩)⟩)
theorem QOk.agg {r : LRun} {q : LQuery} (h : QOk r q) {a : LAggregateCall} (ha : a ∈ q.aggregates) : nD r ((a.args.map cz).flatten) := fun i k hm=>h.params i k (List.mem_flatten.2 ⟨jf q,List.mem_map.2 ⟨q,rg q,rfl⟩,List.mem_append_right _ (List.mem_flatten.2 ⟨_,List.mem_map.2 ⟨a,ha,rfl⟩,hm⟩)⟩)
theorem joinR_mem {f : Rq → Bool} {left : Bool} {pad row : Rq} {a b : Rows} (h : row ∈ jM f left pad a b) : ∃ x ∈ a,(∃ y ∈ b,row = x ++ y) ∨ (left = true ∧ row = x ++ pad) := by
 unfold jM at h
 obtain ⟨l,hl,hr⟩ := List.mem_flatten.1 h
 obtain ⟨x,hx,rfl⟩ := List.mem_map.1 hl
 refine ⟨x,hx,?_⟩
 unfold padR at hr
 split at hr
 ·rename_i hc; simp at hr; exact .inr ⟨hc.1,hr⟩
 ·unfold gF at hr
  obtain ⟨y,hy,rfl⟩ := List.mem_map.1 (List.mem_filter.1 hr).1
  exact .inl ⟨y,hy,rfl⟩
theorem two {q : LQuery} (h : q.inputs.length = 2) : ∃ x y,q.inputs = [x,y] := by
 match hq : q.inputs,h with
 | [x,y],_=>exact ⟨x,y,rfl⟩
theorem one {q : LQuery} (h : q.inputs.length = 1) : ∃ x,q.inputs = [x] := by
 match hq : q.inputs,h with
 | [x],_=>exact ⟨x,rfl⟩
theorem colsR_out {r : LRun} {q : LQuery} (h : QOk r q) : (iD ⟨r.s,r.vars⟩ q (q.inputs.map (be r))).2 = 0 ∧ be r q = (iD ⟨r.s,r.vars⟩ q (q.inputs.map (be r))).1 := by
 obtain ⟨_,_,h3,h4,_⟩ := mf h.cols
 exact ⟨h3,h4⟩
theorem set_fits {kind : Int} {a b : List LCol} {row : Rq} (h : (kM kind a b).2 = 0) (hr : dY a row ∨ (kind = 6 ∧ dY b row)) : dY (kM kind a b).1 row := by
 unfold kM at h ⊢
 by_cases hc : a.length = b.length ∧ a.map LCol.kind = b.map LCol.kind
 ·rw [zp hc]
  refine ⟨?_,fun i c x hci hx=>?_⟩
  ·rcases hr with hr | ⟨_,hr⟩
   ·simp [hr.1,hc.1]
   ·simp [hr.1,hc.1]
  ·rw [List.getElem?_zipWith] at hci
   cases ha : a[i]? with
   | none=>rw [ha] at hci; simp at hci
   | some u =>
    cases hb : b[i]? with
    | none=>rw [ha,hb] at hci; simp at hci
    | some v =>
     rw [ha,hb] at hci
     simp only [zo] at hci
     subst hci
     have hk : u.kind = v.kind := by
      have := congrArg (fun l=>l[i]?) hc.2
      simpa [ha,hb] using this
     rcases hr with hr | ⟨h6,hr⟩
     ·exact (hr.2 i u x ha hx).weak fun hn=>by simp [hn]
     ·have := hr.2 i v x hb hx
      rw [← hk] at this
      exact this.weak fun hn=>by simp [hn,h6]
 ·rw [zy hc] at h; simp at h
theorem join_fits {a b : List LCol} {left : Bool} {x y : Rq} (hx : dY a x) (hy : dY b y) : dY (iq a b left) (x ++ y) := by
 unfold iq
 refine hx.append ⟨by simp [hy.1],fun i c v hc hv=>?_⟩
 rw [List.getElem?_map,Option.map_eq_some_iff] at hc
 obtain ⟨d,hd,rfl⟩ := hc
 exact (hy.2 i d v hd hv).weak fun hn=>by simp [hn]
theorem pad_fits {a b : List LCol} {x : Rq} (hx : dY a x) : dY (iq a b true) (x ++ List.replicate b.length .nul) := by
 unfold iq
 refine hx.append ⟨by simp,fun i c v hc hv=>?_⟩
 rw [List.getElem?_map,Option.map_eq_some_iff] at hc
 obtain ⟨d,hd,rfl⟩ := hc
 rw [List.getElem?_replicate] at hv
 split at hv
 ·cases hv; exact iu (by simp)
 ·cases hv
theorem ru {r : LRun} (hr : RunOk r) : ∀ q : LQuery,QOk r q → RowsOk r q := by
 refine LQuery.ind fun q ih h=>?_
 have hs := shape_ok (mf h.cols).1
 obtain ⟨ho,hcol⟩ := colsR_out h
 have hself := h.small.self
 have hm := (gD h.most).1
 have kk : q.kind = 1 ∨ q.kind = 2 ∨ q.kind = 3 ∨ q.kind = 4 ∨ q.kind = 5 ∨ q.kind = 6 ∨ q.kind = 7 ∨ q.kind = 8 ∨ q.kind = 9 ∨ q.kind = 10 := by have := hs.kind; omega
 have hall : ∀ x ∈ q.inputs,RowsOk r x := fun x hx=>ih x hx (h.sub hx)
 rcases kk with k | k | k | k | k | k | k | k | k | k
 ·-- scan
  have hmq := most_scan k
  unfold iD at ho hcol
  rw [zp k] at ho hcol
  cases hf : r.s.tables.find? (fun t=>t.name == q.table) with
  | none=>rw [hf] at ho; simp at ho
  | some t =>
   rw [hf] at hcol
   obtain ⟨x,hx,hl,hfit⟩ := find_st hr.inst q.table t hf
   have e : aZ r q = x.rows := by rw [ep]; unfold dI; rw [zp k,hx]
   exact ⟨by omega,by rw [e]; omega,by rw [e,hcol]; exact hfit⟩
 all_goals have har := hs.arity
 all_goals rw [k] at har
 all_goals simp only [pN] at har
 ·-- filter
  obtain ⟨x,hi⟩ := one (q := q) (by simpa using har)
  have hx := hall x (by rw [hi]; simp)
  have hmq := pG h.most (by omega) hi
  rw [hi] at hcol ho
  unfold iD at ho hcol
  rw [zy (by omega),zp k] at ho hcol
  have e : aZ r q = (aZ r x).filter (ie r (be r x) q) := by rw [ep,hi]; unfold dI; rw [zy (by omega),zy (by omega),zy (by omega),zy (by omega),zp k]; rfl
  have hcx : be r q = be r x := hcol
  have := List.length_filter_le (ie r (be r x) q) (aZ r x)
  refine ⟨by rw [hmq]; exact hx.pos,by rw [hmq,e]; have := hx.len; omega,fun row hrow=>?_⟩
  rw [e] at hrow
  rw [hcx]
  exact hx.fits row (List.mem_filter.1 hrow).1
 ·-- project
  obtain ⟨x,hi⟩ := one (q := q) (by simpa using har)
  have hx := hall x (by rw [hi]; simp)
  have hmq := pG h.most (by omega) hi
  rw [hi] at hcol ho
  unfold iD at ho hcol
  rw [zy (by omega),zy (by omega),zy (by omega),zy (by omega),zp (.inl k)] at ho hcol
  have e : aZ r q = (aZ r x).map fun y=>q.exprs.map fun e=>bR (aS r (be r x) y) e := by rw [ep,hi]; unfold dI; rw [zy (by omega),zy (by omega),zy (by omega),zy (by omega),zy (by omega),zp k]; rfl
  have hag : q.aggregates = [] := hs.aggs (by omega)
  change (my r.vars (be r x) q).2 = 0 at ho
  change be r q = (my r.vars (be r x) q).1 at hcol
  unfold my at ho hcol
  by_cases hn : (ck r.vars (be r x) q.exprs q.names).2 = 0
  ·rw [zy (by simpa using hn),hag] at hcol
   simp only [dM,ne_eq,not_true_eq_false,if_false,List.append_nil] at hcol
   obtain ⟨hl,hinv⟩ := nJ r.vars (be r x) q.exprs q.names (hs.named (.inl k)) hn
   refine ⟨by rw [hmq]; exact hx.pos,by rw [hmq,e]; simpa using hx.len,fun row hrow=>?_⟩
   rw [e] at hrow
   obtain ⟨y,hy,rfl⟩ := List.mem_map.1 hrow
   rw [hcol]
   refine dY.map hl fun i e' c he hc=>?_
   obtain ⟨ht,d,hd,hk,hnl⟩ := hinv i e' he
   rw [hc] at hd
   cases hd
   rw [hk,hnl]
   exact sG hr (hx.fits y hy) ht (h.expr (gI he))
  ·rw [zp hn] at ho; exact absurd ho hn
 ·-- inner join
  obtain ⟨x,y,hi⟩ := two (q := q) (by simpa using har)
  have hx := hall x (by rw [hi]; simp)
  have hy := hall y (by rw [hi]; simp)
  have hmq := nE h.most (by omega) hi
  rw [zy (by omega),zp (.inl k)] at hmq
  rw [hi] at hcol ho
  unfold iD at ho hcol
  rw [zy (by omega),zy (by omega),zp (.inl k)] at ho hcol
  have e : aZ r q = jM (ie r (be r x ++ be r y) q) (q.kind == 5) (List.replicate (be r y).length .nul) (aZ r x) (aZ r y) := by rw [ep,hi]; unfold dI; rw [zy (by omega),zp (.inl k)]; rfl
  have hcx : be r q = iq (be r x) (be r y) (q.kind == 5) := hcol
  have hb := sR (ie r (be r x ++ be r y) q) (q.kind == 5) (List.replicate (be r y).length .nul) (aZ r x) (aZ r y)
  have hxl := hx.len
  have hyl := hy.len
  have hpos := hx.pos
  have h1m : 1 ≤ dg 1 (bD y).1 ∧ ((max 1 (aZ r y).length : Nat) : Int) ≤ dg 1 (bD y).1 := ⟨jn _ _,by have := jn 1 (bD y).1; have := oj 1 (bD y).1; omega⟩
  refine ⟨?_,?_,fun row hrow=>?_⟩
  ·rw [hmq]
   exact Int.le_trans hpos (by have := Int.mul_le_mul_of_nonneg_left h1m.1 (show 0 ≤ (bD x).1 by omega); omega)
  ·rw [e,hmq]
   have h2 : (((aZ r x).length * max 1 (aZ r y).length : Nat) : Int) ≤ (bD x).1 * dg 1 (bD y).1 := by
    rw [Int.natCast_mul]
    exact Int.mul_le_mul hxl h1m.2 (by omega) (by omega)
   omega
  ·rw [e] at hrow
   rw [hcx]
   obtain ⟨u,hu,⟨v,hv,rfl⟩ | ⟨hl,rfl⟩⟩ := joinR_mem hrow
   ·exact join_fits (hx.fits u hu) (hy.fits v hv)
   ·rw [hl]; exact pad_fits (hx.fits u hu)
 ·-- left join
  obtain ⟨x,y,hi⟩ := two (q := q) (by simpa using har)
  have hx := hall x (by rw [hi]; simp)
  have hy := hall y (by rw [hi]; simp)
  have hmq := nE h.most (by omega) hi
  rw [zy (by omega),zp (.inr k)] at hmq
  rw [hi] at hcol ho
  unfold iD at ho hcol
  rw [zy (by omega),zy (by omega),zp (.inr k)] at ho hcol
  have e : aZ r q = jM (ie r (be r x ++ be r y) q) (q.kind == 5) (List.replicate (be r y).length .nul) (aZ r x) (aZ r y) := by rw [ep,hi]; unfold dI; rw [zy (by omega),zp (.inr k)]; rfl
  have hcx : be r q = iq (be r x) (be r y) (q.kind == 5) := hcol
  have hb := sR (ie r (be r x ++ be r y) q) (q.kind == 5) (List.replicate (be r y).length .nul) (aZ r x) (aZ r y)
  have hxl := hx.len
  have hyl := hy.len
  have hpos := hx.pos
  have h1m : 1 ≤ dg 1 (bD y).1 ∧ ((max 1 (aZ r y).length : Nat) : Int) ≤ dg 1 (bD y).1 := ⟨jn _ _,by have := jn 1 (bD y).1; have := oj 1 (bD y).1; omega⟩
  refine ⟨?_,?_,fun row hrow=>?_⟩
  ·rw [hmq]
   exact Int.le_trans hpos (by have := Int.mul_le_mul_of_nonneg_left h1m.1 (show 0 ≤ (bD x).1 by omega); omega)
  ·rw [e,hmq]
   have h2 : (((aZ r x).length * max 1 (aZ r y).length : Nat) : Int) ≤ (bD x).1 * dg 1 (bD y).1 := by
    rw [Int.natCast_mul]
    exact Int.mul_le_mul hxl h1m.2 (by omega) (by omega)
   omega
  ·rw [e] at hrow
   rw [hcx]
   obtain ⟨u,hu,⟨v,hv,rfl⟩ | ⟨hl,rfl⟩⟩ := joinR_mem hrow
   ·exact join_fits (hx.fits u hu) (hy.fits v hv)
   ·rw [hl]; exact pad_fits (hx.fits u hu)
 ·-- union
  obtain ⟨x,y,hi⟩ := two (q := q) (by simpa using har)
  have hx := hall x (by rw [hi]; simp)
  have hy := hall y (by rw [hi]; simp)
  have hmq := nE h.most (by omega) hi
  rw [zp k] at hmq
  rw [hi] at hcol ho
  unfold iD at ho hcol
  rw [zy (by omega),zy (by omega),zy (by omega),zp (.inl k)] at ho hcol
  have e : aZ r q = aZ r x ++ aZ r y := by rw [ep,hi]; unfold dI; rw [zy (by omega),zy (by omega),zp k]; rfl
  change (kM q.kind (be r x) (be r y)).2 = 0 at ho
  change be r q = (kM q.kind (be r x) (be r y)).1 at hcol
  have := hx.len
  have := hy.len
  have := hx.pos
  have := hy.pos
  refine ⟨by omega,by rw [e,hmq]; simp; omega,fun row hrow=>?_⟩
  rw [e] at hrow
  rw [hcol]
  rcases List.mem_append.1 hrow with hrow | hrow
  ·exact set_fits ho (.inl (hx.fits row hrow))
  ·exact set_fits ho (.inr ⟨k,hy.fits row hrow⟩)
 ·-- difference
  obtain ⟨x,y,hi⟩ := two (q := q) (by simpa using har)
  have hx := hall x (by rw [hi]; simp)
  have hmq := nE h.most (by omega) hi
  rw [zy (by omega),zy (by omega)] at hmq
  rw [hi] at hcol ho
  unfold iD at ho hcol
  rw [zy (by omega),zy (by omega),zy (by omega),zp (.inr k)] at ho hcol
  have e : aZ r q = lS (aZ r x) (aZ r y) := by rw [ep,hi]; unfold dI; rw [zy (by omega),zy (by omega),zy (by omega),zp k]; rfl
  change (kM q.kind (be r x) (be r y)).2 = 0 at ho
  change be r q = (kM q.kind (be r x) (be r y)).1 at hcol
  have hsub := sM (aZ r x) (aZ r y)
  have := hsub.length_le
  have := hx.len
  have := hx.pos
  refine ⟨by omega,by rw [e,hmq]; omega,fun row hrow=>?_⟩
  rw [e] at hrow
  rw [hcol]
  exact set_fits ho (.inl (hx.fits row (hsub.subset hrow)))
 ·-- aggregation
  obtain ⟨x,hi⟩ := one (q := q) (by simpa using har)
  have hx := hall x (by rw [hi]; simp)
  have hmq := pG h.most (by omega) hi
  rw [hi] at hcol ho
  unfold iD at ho hcol
  rw [zy (by omega),zy (by omega),zy (by omega),zy (by omega),zp (.inr k)] at ho hcol
  have e : aZ r q = nZ r (be r x) q (aZ r x) := by rw [ep,hi]; unfold dI; rw [zy (by omega),zy (by omega),zy (by omega),zy (by omega),zy (by omega),zy (by omega),zp k]; rfl
  change (my r.vars (be r x) q).2 = 0 at ho
  change be r q = (my r.vars (be r x) q).1 at hcol
  have hxl := hx.len
  have hxp := hx.pos
  have hxm := (gD h.most).2 x (by rw [hi]; simp)
  have hxm1 := (gD hxm).1
  unfold my at ho hcol
  by_cases hn : (ck r.vars (be r x) q.exprs q.names).2 = 0
  ·rw [zy (by simpa using hn)] at hcol ho
   by_cases hg : (dM r.vars (be r x) q.aggregates).2 = 0
   ·rw [zy (by simpa using hg)] at hcol
    obtain ⟨hl,hinv⟩ := nJ r.vars (be r x) q.exprs q.names (hs.named (.inr k)) hn
    obtain ⟨hl2,hinv2⟩ := rU r.vars (be r x) q.aggregates hg
    have hkeys := qm (fun x_1=>q.exprs.map fun e=>bR (aS r (be r x) x_1) e) (aZ r x) (if q.exprs = [] then [[]] else [])
    have hlen : ((nZ r (be r x) q (aZ r x)).length : Int) ≤ (bD x).1 := by
     unfold nZ
     rw [zl]
     by_cases hee : q.exprs = []
     ·-- without keys there is one group
      have : ∀ (l ks : Rows),ks = [[]] → eX (fun x_1=>q.exprs.map fun e=>bR (aS r (be r x) x_1) e) ks l = [[]] := by
       intro l
       induction l with
       | nil=>intro ks hk; simpa [eX] using hk
       | cons z l ih2 =>
        intro ks hk
        rw [eX]
        refine ih2 _ ?_
        rw [zp (by rw [hk,hee]; simp),hk]
      rw [this _ _ (by rw [zp hee])]
      simp
      omega
     ·rw [zy hee] at hkeys ⊢
      simp at hkeys
      omega
    refine ⟨by rw [hmq]; exact hxp,by rw [hmq,e]; exact hlen,fun row hrow=>?_⟩
    rw [e] at hrow
    rw [hcol]
    unfold nZ at hrow
    obtain ⟨kk,hkk,rfl⟩ := List.mem_map.1 hrow
    refine dY.append ?_ ?_
    ·rcases (qi _ _ _ _).1 hkk with hk0 | ⟨y,hy,rfl⟩
     ·split at hk0
      ·rename_i hee
       simp at hk0
       subst hk0
       rw [hee] at hl ⊢
       exact ⟨by simpa using hl.symm,fun i c v hc hv=>by simp at hv⟩
      ·simp at hk0
     ·refine dY.map hl fun i e' c he hc=>?_
      obtain ⟨ht,d,hd,hk,hnl⟩ := hinv i e' he
      rw [hc] at hd
      cases hd
      rw [hk,hnl]
      exact sG hr (hx.fits y hy) ht (h.expr (gI he))
    ·refine ⟨by simp [hl2],fun i c v hc hv=>?_⟩
     rw [List.getElem?_map,Option.map_eq_some_iff] at hv
     obtain ⟨a,ha,rfl⟩ := hv
     obtain ⟨hq,d,hd,hk,hnl⟩ := hinv2 i a ha
     rw [hc] at hd
     cases hd
     rw [hk,hnl]
     refine agg_fits hr hq (fun row hrow=>hx.fits row (List.mem_filter.1 hrow).1) ?_ (h.agg (gI ha))
     unfold fq
     exact Nat.le_trans (List.length_filter_le _ _) (by omega)
   ·rw [zp hg] at ho; exact absurd ho hg
  ·rw [zp hn] at ho; exact absurd ho hn
 ·-- sort
  obtain ⟨x,hi⟩ := one (q := q) (by simpa using har)
  have hx := hall x (by rw [hi]; simp)
  have hmq := pG h.most (by omega) hi
  rw [hi] at hcol ho
  unfold iD at ho hcol
  rw [zy (by omega),zy (by omega),zy (by omega),zy (by omega),zy (by omega),zp k] at ho hcol
  have hxm := (gD h.most).2 x (by rw [hi]; simp)
  have hxm1 := (gD hxm).1
  have hxl := hx.len
  obtain ⟨l',hsort,hperm⟩ := sort_ok r q (be r x) (aZ r x) (by omega) hself.1
  have e : aZ r q = l' := by rw [ep,hi]; unfold dI; rw [zy (by omega),zy (by omega),zy (by omega),zy (by omega),zy (by omega),zy (by omega),zy (by omega),zp k]; show (fM r q (be r x) (aZ r x)).getD [] = l'; rw [hsort]; rfl
  have hcx : be r q = be r x := by
   by_cases hse : jG r.vars (be r x) q.exprs = 0
   ·exact hcol.trans (by show (if jG r.vars (be r x) q.exprs ≠ 0 then _ else _ : List LCol × Int).1 = _; rw [zy (by simpa using hse)]; rfl)
   ·exact absurd (by
     have : (if jG r.vars (be r x) q.exprs ≠ 0 then (([],jG r.vars (be r x) q.exprs) : List LCol × Int) else (be r x,0)).2 = 0 := ho
     rw [zp hse] at this
     exact this) hse
  refine ⟨by rw [hmq]; exact hx.pos,by rw [hmq,e,hperm.length_eq]; exact hxl,fun row hrow=>?_⟩
  rw [e] at hrow
  rw [hcx]
  exact hx.fits row (hperm.mem_iff.1 hrow)
 ·-- limit
  obtain ⟨x,hi⟩ := one (q := q) (by simpa using har)
  have hx := hall x (by rw [hi]; simp)
  have hmq := pG h.most (by omega) hi
  rw [hi] at hcol ho
  unfold iD at ho hcol
  rw [zy (by omega),zy (by omega),zy (by omega),zy (by omega),zy (by omega),zy (by omega)] at ho hcol
  have hcx : be r q = be r x := hcol
  have e : aZ r q = qT q (aZ r x) := by rw [ep,hi]; unfold dI; rw [zy (by omega),zy (by omega),zy (by omega),zy (by omega),zy (by omega),zy (by omega),zy (by omega),zy (by omega)]; rfl
  have hsub : (qT q (aZ r x)).Sublist (aZ r x) := (List.drop_sublist _ _).trans (List.take_sublist _ _)
  have := hsub.length_le
  have := hx.len
  refine ⟨by rw [hmq]; exact hx.pos,by rw [hmq,e]; omega,fun row hrow=>?_⟩
  rw [e] at hrow
  rw [hcx]
  exact hx.fits row (hsub.subset hrow)
end
end Go.Proofs.YtifhafpljncplaaGreatDoor
