import Derived.Test.YtnbhdjadlbhknaaGreatDoorW3
import Derived.Test.YtnbhdjadlbhknaaGreatDoorW5
set_option linter.unusedVariables false
set_option linter.unusedSimpArgs false
set_option linter.unusedSectionVars false
namespace Go.Proofs.YtnbhdjadlbhknaaGreatDoor.J
open Go.Ax
set_option maxRecDepth 1000000
def caf {P : Program} (f r p : Nat) (i : Nat) (C : Ctr P) (els : List AV → FuncId → Nat → Nat → Option (Ctr P)) : List AV → FuncId → Nat → Nat → Option (Ctr P) :=
  fun ts f' r' p' => match Nat.beq f f' && Nat.beq r r' && Nat.beq p p' with
    | true => (match get ts i with
      | .s (.bool false) => some C
      | _ => els ts f' r' p')
    | false => els ts f' r' p'
def rcProduce (l : List Int) : R.Cmd × RS :=
  let r_hkind := intS l default; let hkind := r_hkind.1; let hs1 := r_hkind.2; let r_hepoch := uintS l hs1; let hepoch := r_hepoch.1; let hs2 := r_hepoch.2; let r_a_prod := uintS l hs2; let a_prod := r_a_prod.1; let a_s1 := r_a_prod.2; let r_a_seq := uintS l a_s1; let a_seq := r_a_seq.1; let a_s2 := r_a_seq.2; let r_a_key := strS l a_s2 32; let a_key := r_a_key.1; let a_s3 := r_a_key.2; let r_a_val := bytesS l a_s3 256; let a_val := r_a_val.1; let a_s4 := r_a_val.2; ((⟨hkind, hepoch, a_prod, a_seq, a_key, a_val, 0, 0, ByteArray.empty, 0⟩ : R.Cmd), a_s4)
def rcFetch (l : List Int) : R.Cmd × RS :=
  let r_hkind := intS l default; let hkind := r_hkind.1; let hs1 := r_hkind.2; let r_hepoch := uintS l hs1; let hepoch := r_hepoch.1; let hs2 := r_hepoch.2; let r_b_off := uintS l hs2; let b_off := r_b_off.1; let b_s1 := r_b_off.2; let r_b_most := intS l b_s1; let b_most := r_b_most.1; let b_s2 := r_b_most.2; ((⟨hkind, hepoch, 0, 0, ByteArray.empty, [], b_off, b_most, ByteArray.empty, 0⟩ : R.Cmd), b_s2)
def rcCommit (l : List Int) : R.Cmd × RS :=
  let r_hkind := intS l default; let hkind := r_hkind.1; let hs1 := r_hkind.2; let r_hepoch := uintS l hs1; let hepoch := r_hepoch.1; let hs2 := r_hepoch.2; let r_c_prod := uintS l hs2; let c_prod := r_c_prod.1; let c_s1 := r_c_prod.2; let r_c_seq := uintS l c_s1; let c_seq := r_c_seq.1; let c_s2 := r_c_seq.2; let r_c_name := strS l c_s2 32; let c_name := r_c_name.1; let c_s3 := r_c_name.2; let r_c_off := uintS l c_s3; let c_off := r_c_off.1; let c_s4 := r_c_off.2; ((⟨hkind, hepoch, c_prod, c_seq, ByteArray.empty, [], c_off, 0, c_name, 0⟩ : R.Cmd), c_s4)
def rcRead (l : List Int) : R.Cmd × RS :=
  let r_hkind := intS l default; let hkind := r_hkind.1; let hs1 := r_hkind.2; let r_hepoch := uintS l hs1; let hepoch := r_hepoch.1; let hs2 := r_hepoch.2; let r_d_name := strS l hs2 32; let d_name := r_d_name.1; let d_s1 := r_d_name.2; ((⟨hkind, hepoch, 0, 0, ByteArray.empty, [], 0, 0, d_name, 0⟩ : R.Cmd), d_s1)
def rcPlan (l : List Int) : R.Cmd × RS :=
  let r_hkind := intS l default; let hkind := r_hkind.1; let hs1 := r_hkind.2; let r_hepoch := uintS l hs1; let hepoch := r_hepoch.1; let hs2 := r_hepoch.2; let r_e_plan := uintS l hs2; let e_plan := r_e_plan.1; let e_s1 := r_e_plan.2; ((⟨hkind, hepoch, 0, 0, ByteArray.empty, [], 0, 0, ByteArray.empty, e_plan⟩ : R.Cmd), e_s1)
def rcNone (l : List Int) : R.Cmd × RS :=
  let r_hkind := intS l default; let hkind := r_hkind.1; let hs1 := r_hkind.2; let r_hepoch := uintS l hs1; let hepoch := r_hepoch.1; let hs2 := r_hepoch.2; ((⟨hkind, hepoch, 0, 0, ByteArray.empty, [], 0, 0, ByteArray.empty, 0⟩ : R.Cmd), hs2)
def rcKind (l : List Int) : Int := (intS l default).1
def rcRaw (l : List Int) : R.Cmd × RS := if rcKind l = 1 then rcProduce l else if rcKind l = 2 then rcFetch l else if rcKind l = 3 then rcCommit l else if rcKind l = 4 then rcRead l else if rcKind l = 5 ∨ rcKind l = 6 then rcPlan l else rcNone l
def rcS (l : List Int) : R.Cmd × Int := if doneE l (rcRaw l).2 = 0 ∧ R.wellB (rcRaw l).1 = true then ((rcRaw l).1, 0) else (default, 161)
structure RcP where
  hkind : Int
  hs1 : RS
  hepoch : Int
  hs2 : RS
  a_prod : Int
  a_s1 : RS
  a_seq : Int
  a_s2 : RS
  a_key : ByteArray
  a_s3 : RS
  a_val : List Int
  a_s4 : RS
  b_off : Int
  b_s1 : RS
  b_most : Int
  b_s2 : RS
  c_prod : Int
  c_s1 : RS
  c_seq : Int
  c_s2 : RS
  c_name : ByteArray
  c_s3 : RS
  c_off : Int
  c_s4 : RS
  d_name : ByteArray
  d_s1 : RS
  e_plan : Int
  e_s1 : RS
def rcR (c : R.Cmd) (e : Int) : T An := .ret (.tup [.agg (R.encCm c), .y (.int .i64 e)], [], [])
noncomputable def rcH (b : Bool) (l : List Int) (q : RcP) : HintsT Tryz.prog := withCa (suR (hh _ noLp (cs1 26 1 1 (nrC b l) (cs1 26 2 1 (iC l default q.hkind q.hs1) (cs1 26 3 1 (uC l q.hs1 q.hepoch q.hs2) (cs1 26 6 1 (uC l q.hs2 q.a_prod q.a_s1) (cs1 26 6 3 (uC l q.a_s1 q.a_seq q.a_s2) (cs1 26 7 1 (sC l q.a_s2 32 q.a_key q.a_s3) (cs1 26 7 3 (yC l q.a_s3 256 q.a_val q.a_s4) (cs1 26 9 1 (uC l q.hs2 q.b_off q.b_s1) (cs1 26 9 3 (iC l q.b_s1 q.b_most q.b_s2) (cs1 26 11 1 (uC l q.hs2 q.c_prod q.c_s1) (cs1 26 11 3 (uC l q.c_s1 q.c_seq q.c_s2) (cs1 26 12 1 (sC l q.c_s2 32 q.c_name q.c_s3) (cs1 26 12 3 (uC l q.c_s3 q.c_off q.c_s4) (cs1 26 14 1 (sC l q.hs2 32 q.d_name q.d_s1) (cs1 26 17 1 (uC l q.hs2 q.e_plan q.e_s1) noCs))))))))))))))) noOp)) (cab 26 18 1 16 (dC l q.a_s4) (cab 26 18 5 16 (R.weC ⟨q.hkind, q.hepoch, q.a_prod, q.a_seq, q.a_key, q.a_val, 0, 0, ByteArray.empty, 0⟩) (cab 26 18 1 30 (dC l q.b_s2) (cab 26 18 5 30 (R.weC ⟨q.hkind, q.hepoch, 0, 0, ByteArray.empty, [], q.b_off, q.b_most, ByteArray.empty, 0⟩) (cab 26 18 1 38 (dC l q.c_s4) (cab 26 18 5 38 (R.weC ⟨q.hkind, q.hepoch, q.c_prod, q.c_seq, ByteArray.empty, [], q.c_off, 0, q.c_name, 0⟩) (cab 26 18 1 52 (dC l q.d_s1) (cab 26 18 5 52 (R.weC ⟨q.hkind, q.hepoch, 0, 0, ByteArray.empty, [], 0, 0, q.d_name, 0⟩) (cab 26 18 1 57 (dC l q.e_s1) (cab 26 18 5 57 (R.weC ⟨q.hkind, q.hepoch, 0, 0, ByteArray.empty, [], 0, 0, ByteArray.empty, q.e_plan⟩) (caf 26 18 1 57 (dC l q.hs2) (caf 26 18 5 57 (R.weC ⟨q.hkind, q.hepoch, 0, 0, ByteArray.empty, [], 0, 0, ByteArray.empty, 0⟩) noCa))))))))))))
def vcRc_q1 (c : R.Cmd) (e : Int) : Prop := (((0 : Int) = c.kind ∧ (0 : Int) = c.epoch ∧ (0 : Int) = c.prod ∧ (0 : Int) = c.seq ∧ { data := #[] : ByteArray } = c.key ∧ List.length c.val = (0 : Nat) ∧ (0 : Int) = c.off ∧ (0 : Int) = c.most ∧ { data := #[] : ByteArray } = c.name ∧ (0 : Int) = c.plan ∧ True) ∧ (161 : Int) = e ∧ True)
def vcRc_q2 (l : List Int) (q : RcP) (c : R.Cmd) (e : Int) : Prop := ((doneE l q.e_s1 != (0 : Int)) = false → ((q.hkind = q.hkind ∧ q.hepoch = q.hepoch ∧ (0 : Int) = (0 : Int) ∧ (0 : Int) = (0 : Int) ∧ { data := #[] : ByteArray } = ByteArray.empty ∧ (0 : Nat) = (0 : Nat) ∧ (0 : Int) = (0 : Int) ∧ (0 : Int) = (0 : Int) ∧ { data := #[] : ByteArray } = ByteArray.empty ∧ q.e_plan = q.e_plan ∧ True) ∧ True) ∧ True ∧ ((!R.wellB { kind := q.hkind, epoch := q.hepoch, prod := (0 : Int), seq := (0 : Int), key := ByteArray.empty, val := [], off := (0 : Int), most := (0 : Int), name := ByteArray.empty, plan := q.e_plan : R.Cmd }) = true → (vcRc_q1 c e) ∧ True) ∧ ((!R.wellB { kind := q.hkind, epoch := q.hepoch, prod := (0 : Int), seq := (0 : Int), key := ByteArray.empty, val := [], off := (0 : Int), most := (0 : Int), name := ByteArray.empty, plan := q.e_plan : R.Cmd }) = false → ((q.hkind = c.kind ∧ q.hepoch = c.epoch ∧ (0 : Int) = c.prod ∧ (0 : Int) = c.seq ∧ { data := #[] : ByteArray } = c.key ∧ List.length c.val = (0 : Nat) ∧ (0 : Int) = c.off ∧ (0 : Int) = c.most ∧ { data := #[] : ByteArray } = c.name ∧ q.e_plan = c.plan ∧ True) ∧ (0 : Int) = e ∧ True) ∧ True))
def vcRc (b : Bool) (l : List Int) (q : RcP) (c : R.Cmd) (e : Int) : Prop :=
  ((b = b ∧ List.length l = List.length l ∧ contLe (List.length l) (1 : Nat) (cellsOf' encB l) (cellsOf' encB l)) ∧ True) ∧ True ∧ LOk l ∧ (((0 : Nat) = (0 : Nat) ∧ (0 : Nat) = (0 : Nat)) ∧ True) ∧ (((true = true ∧ List.length l = List.length l ∧ contLe (List.length l) (1 : Nat) (cellsOf' encB l) (cellsOf' encB l)) ∧ (0 : Int) = (0 : Int) ∧ (false = false ∧ true = true ∧ (2 : Nat) ≤ (2 : Nat) ∧ cellLe (2 : Nat) (Ax.get [AV.y (Value.int IntKind.i64 (0 : Int)), AV.ifc (31 : Nat) (AV.y (Value.int IntKind.i64 (0 : Int)))]) (Ax.get [AV.y (Value.int IntKind.i64 (0 : Int)), AV.ifc (31 : Nat) (AV.y (Value.int IntKind.i64 (0 : Int)))])) ∧ True) ∧ True) ∧ ROk l (@default RS instInhabitedRS) ∧ (q.hkind, q.hs1) = (zag (uintS l (@default RS instInhabitedRS)).fst, (uintS l (@default RS instInhabitedRS)).snd) ∧ (((0 : Nat) = (0 : Nat) ∧ (0 : Nat) = (0 : Nat)) ∧ True) ∧ ((rmLe l q.hs1 q.hs1) ∧ True) ∧ ROk l q.hs1 ∧ (q.hepoch, q.hs2) = uintS l q.hs1 ∧ ((q.hkind == (1 : Int)) = true → (((0 : Nat) = (0 : Nat) ∧ (0 : Nat) = (0 : Nat)) ∧ True) ∧ ((rmLe l q.hs2 q.hs2) ∧ True) ∧ ROk l q.hs2 ∧ (q.a_prod, q.a_s1) = uintS l q.hs2 ∧ (((0 : Nat) = (0 : Nat) ∧ (0 : Nat) = (0 : Nat)) ∧ True) ∧ ((rmLe l q.a_s1 q.a_s1) ∧ True) ∧ ROk l q.a_s1 ∧ (q.a_seq, q.a_s2) = uintS l q.a_s1 ∧ (((0 : Nat) = (0 : Nat) ∧ (0 : Nat) = (0 : Nat)) ∧ (32 : Int) = (32 : Int) ∧ True) ∧ ((rmLe l q.a_s2 q.a_s2) ∧ True) ∧ (ROk l q.a_s2 ∧ I64 (32 : Int)) ∧ (q.a_key, q.a_s3) = (strOf (bytesS l q.a_s2 (32 : Int)).fst, (bytesS l q.a_s2 (32 : Int)).snd) ∧ (((0 : Nat) = (0 : Nat) ∧ (0 : Nat) = (0 : Nat)) ∧ (256 : Int) = (256 : Int) ∧ True) ∧ ((rmLe l q.a_s3 q.a_s3) ∧ True) ∧ (ROk l q.a_s3 ∧ I64 (256 : Int)) ∧ (q.a_val, q.a_s4) = bytesS l q.a_s3 (256 : Int) ∧ (((0 : Nat) = (0 : Nat) ∧ (0 : Nat) = (0 : Nat)) ∧ True) ∧ ((rmLe l q.a_s4 q.a_s4) ∧ True) ∧ ROk l q.a_s4 ∧ ((doneE l q.a_s4 != (0 : Int)) = true → (vcRc_q1 c e) ∧ True) ∧ ((doneE l q.a_s4 != (0 : Int)) = false → ((q.hkind = q.hkind ∧ q.hepoch = q.hepoch ∧ q.a_prod = q.a_prod ∧ q.a_seq = q.a_seq ∧ q.a_key = q.a_key ∧ (true = true ∧ List.length q.a_val = List.length q.a_val ∧ contLe (List.length q.a_val) (1 : Nat) (cellsOf' encB q.a_val) (cellsOf' encB q.a_val)) ∧ (0 : Int) = (0 : Int) ∧ (0 : Int) = (0 : Int) ∧ { data := #[] : ByteArray } = ByteArray.empty ∧ (0 : Int) = (0 : Int) ∧ True) ∧ True) ∧ True ∧ ((!R.wellB { kind := q.hkind, epoch := q.hepoch, prod := q.a_prod, seq := q.a_seq, key := q.a_key, val := q.a_val, off := (0 : Int), most := (0 : Int), name := ByteArray.empty, plan := (0 : Int) : R.Cmd }) = true → (vcRc_q1 c e) ∧ True) ∧ ((!R.wellB { kind := q.hkind, epoch := q.hepoch, prod := q.a_prod, seq := q.a_seq, key := q.a_key, val := q.a_val, off := (0 : Int), most := (0 : Int), name := ByteArray.empty, plan := (0 : Int) : R.Cmd }) = false → ((q.hkind = c.kind ∧ q.hepoch = c.epoch ∧ q.a_prod = c.prod ∧ q.a_seq = c.seq ∧ q.a_key = c.key ∧ (true = true ∧ List.length q.a_val = List.length c.val ∧ contLe (List.length q.a_val) (1 : Nat) (cellsOf' encB q.a_val) (cellsOf' encB c.val)) ∧ (0 : Int) = c.off ∧ (0 : Int) = c.most ∧ { data := #[] : ByteArray } = c.name ∧ (0 : Int) = c.plan ∧ True) ∧ (0 : Int) = e ∧ True) ∧ True))) ∧ ((q.hkind == (1 : Int)) = false → ((q.hkind == (2 : Int)) = true → (((0 : Nat) = (0 : Nat) ∧ (0 : Nat) = (0 : Nat)) ∧ True) ∧ ((rmLe l q.hs2 q.hs2) ∧ True) ∧ ROk l q.hs2 ∧ (q.b_off, q.b_s1) = uintS l q.hs2 ∧ (((0 : Nat) = (0 : Nat) ∧ (0 : Nat) = (0 : Nat)) ∧ True) ∧ ((rmLe l q.b_s1 q.b_s1) ∧ True) ∧ ROk l q.b_s1 ∧ (q.b_most, q.b_s2) = (zag (uintS l q.b_s1).fst, (uintS l q.b_s1).snd) ∧ (((0 : Nat) = (0 : Nat) ∧ (0 : Nat) = (0 : Nat)) ∧ True) ∧ ((rmLe l q.b_s2 q.b_s2) ∧ True) ∧ ROk l q.b_s2 ∧ ((doneE l q.b_s2 != (0 : Int)) = true → (vcRc_q1 c e) ∧ True) ∧ ((doneE l q.b_s2 != (0 : Int)) = false → ((q.hkind = q.hkind ∧ q.hepoch = q.hepoch ∧ (0 : Int) = (0 : Int) ∧ (0 : Int) = (0 : Int) ∧ { data := #[] : ByteArray } = ByteArray.empty ∧ (0 : Nat) = (0 : Nat) ∧ q.b_off = q.b_off ∧ q.b_most = q.b_most ∧ { data := #[] : ByteArray } = ByteArray.empty ∧ (0 : Int) = (0 : Int) ∧ True) ∧ True) ∧ True ∧ ((!R.wellB { kind := q.hkind, epoch := q.hepoch, prod := (0 : Int), seq := (0 : Int), key := ByteArray.empty, val := [], off := q.b_off, most := q.b_most, name := ByteArray.empty, plan := (0 : Int) : R.Cmd }) = true → (vcRc_q1 c e) ∧ True) ∧ ((!R.wellB { kind := q.hkind, epoch := q.hepoch, prod := (0 : Int), seq := (0 : Int), key := ByteArray.empty, val := [], off := q.b_off, most := q.b_most, name := ByteArray.empty, plan := (0 : Int) : R.Cmd }) = false → ((q.hkind = c.kind ∧ q.hepoch = c.epoch ∧ (0 : Int) = c.prod ∧ (0 : Int) = c.seq ∧ { data := #[] : ByteArray } = c.key ∧ List.length c.val = (0 : Nat) ∧ q.b_off = c.off ∧ q.b_most = c.most ∧ { data := #[] : ByteArray } = c.name ∧ (0 : Int) = c.plan ∧ True) ∧ (0 : Int) = e ∧ True) ∧ True))) ∧ ((q.hkind == (2 : Int)) = false → ((q.hkind == (3 : Int)) = true → (((0 : Nat) = (0 : Nat) ∧ (0 : Nat) = (0 : Nat)) ∧ True) ∧ ((rmLe l q.hs2 q.hs2) ∧ True) ∧ ROk l q.hs2 ∧ (q.c_prod, q.c_s1) = uintS l q.hs2 ∧ (((0 : Nat) = (0 : Nat) ∧ (0 : Nat) = (0 : Nat)) ∧ True) ∧ ((rmLe l q.c_s1 q.c_s1) ∧ True) ∧ ROk l q.c_s1 ∧ (q.c_seq, q.c_s2) = uintS l q.c_s1 ∧ (((0 : Nat) = (0 : Nat) ∧ (0 : Nat) = (0 : Nat)) ∧ (32 : Int) = (32 : Int) ∧ True) ∧ ((rmLe l q.c_s2 q.c_s2) ∧ True) ∧ (ROk l q.c_s2 ∧ I64 (32 : Int)) ∧ (q.c_name, q.c_s3) = (strOf (bytesS l q.c_s2 (32 : Int)).fst, (bytesS l q.c_s2 (32 : Int)).snd) ∧ (((0 : Nat) = (0 : Nat) ∧ (0 : Nat) = (0 : Nat)) ∧ True) ∧ ((rmLe l q.c_s3 q.c_s3) ∧ True) ∧ ROk l q.c_s3 ∧ (q.c_off, q.c_s4) = uintS l q.c_s3 ∧ (((0 : Nat) = (0 : Nat) ∧ (0 : Nat) = (0 : Nat)) ∧ True) ∧ ((rmLe l q.c_s4 q.c_s4) ∧ True) ∧ ROk l q.c_s4 ∧ ((doneE l q.c_s4 != (0 : Int)) = true → (vcRc_q1 c e) ∧ True) ∧ ((doneE l q.c_s4 != (0 : Int)) = false → ((q.hkind = q.hkind ∧ q.hepoch = q.hepoch ∧ q.c_prod = q.c_prod ∧ q.c_seq = q.c_seq ∧ { data := #[] : ByteArray } = ByteArray.empty ∧ (0 : Nat) = (0 : Nat) ∧ q.c_off = q.c_off ∧ (0 : Int) = (0 : Int) ∧ q.c_name = q.c_name ∧ (0 : Int) = (0 : Int) ∧ True) ∧ True) ∧ True ∧ ((!R.wellB { kind := q.hkind, epoch := q.hepoch, prod := q.c_prod, seq := q.c_seq, key := ByteArray.empty, val := [], off := q.c_off, most := (0 : Int), name := q.c_name, plan := (0 : Int) : R.Cmd }) = true → (vcRc_q1 c e) ∧ True) ∧ ((!R.wellB { kind := q.hkind, epoch := q.hepoch, prod := q.c_prod, seq := q.c_seq, key := ByteArray.empty, val := [], off := q.c_off, most := (0 : Int), name := q.c_name, plan := (0 : Int) : R.Cmd }) = false → ((q.hkind = c.kind ∧ q.hepoch = c.epoch ∧ q.c_prod = c.prod ∧ q.c_seq = c.seq ∧ { data := #[] : ByteArray } = c.key ∧ List.length c.val = (0 : Nat) ∧ q.c_off = c.off ∧ (0 : Int) = c.most ∧ q.c_name = c.name ∧ (0 : Int) = c.plan ∧ True) ∧ (0 : Int) = e ∧ True) ∧ True))) ∧ ((q.hkind == (3 : Int)) = false → ((q.hkind == (4 : Int)) = true → (((0 : Nat) = (0 : Nat) ∧ (0 : Nat) = (0 : Nat)) ∧ (32 : Int) = (32 : Int) ∧ True) ∧ ((rmLe l q.hs2 q.hs2) ∧ True) ∧ (ROk l q.hs2 ∧ I64 (32 : Int)) ∧ (q.d_name, q.d_s1) = (strOf (bytesS l q.hs2 (32 : Int)).fst, (bytesS l q.hs2 (32 : Int)).snd) ∧ (((0 : Nat) = (0 : Nat) ∧ (0 : Nat) = (0 : Nat)) ∧ True) ∧ ((rmLe l q.d_s1 q.d_s1) ∧ True) ∧ ROk l q.d_s1 ∧ ((doneE l q.d_s1 != (0 : Int)) = true → (vcRc_q1 c e) ∧ True) ∧ ((doneE l q.d_s1 != (0 : Int)) = false → ((q.hkind = q.hkind ∧ q.hepoch = q.hepoch ∧ (0 : Int) = (0 : Int) ∧ (0 : Int) = (0 : Int) ∧ { data := #[] : ByteArray } = ByteArray.empty ∧ (0 : Nat) = (0 : Nat) ∧ (0 : Int) = (0 : Int) ∧ (0 : Int) = (0 : Int) ∧ q.d_name = q.d_name ∧ (0 : Int) = (0 : Int) ∧ True) ∧ True) ∧ True ∧ ((!R.wellB { kind := q.hkind, epoch := q.hepoch, prod := (0 : Int), seq := (0 : Int), key := ByteArray.empty, val := [], off := (0 : Int), most := (0 : Int), name := q.d_name, plan := (0 : Int) : R.Cmd }) = true → (vcRc_q1 c e) ∧ True) ∧ ((!R.wellB { kind := q.hkind, epoch := q.hepoch, prod := (0 : Int), seq := (0 : Int), key := ByteArray.empty, val := [], off := (0 : Int), most := (0 : Int), name := q.d_name, plan := (0 : Int) : R.Cmd }) = false → ((q.hkind = c.kind ∧ q.hepoch = c.epoch ∧ (0 : Int) = c.prod ∧ (0 : Int) = c.seq ∧ { data := #[] : ByteArray } = c.key ∧ List.length c.val = (0 : Nat) ∧ (0 : Int) = c.off ∧ (0 : Int) = c.most ∧ q.d_name = c.name ∧ (0 : Int) = c.plan ∧ True) ∧ (0 : Int) = e ∧ True) ∧ True))) ∧ ((q.hkind == (4 : Int)) = false → ((q.hkind == (5 : Int)) = true → (((0 : Nat) = (0 : Nat) ∧ (0 : Nat) = (0 : Nat)) ∧ True) ∧ ((rmLe l q.hs2 q.hs2) ∧ True) ∧ ROk l q.hs2 ∧ (q.e_plan, q.e_s1) = uintS l q.hs2 ∧ (((0 : Nat) = (0 : Nat) ∧ (0 : Nat) = (0 : Nat)) ∧ True) ∧ ((rmLe l q.e_s1 q.e_s1) ∧ True) ∧ ROk l q.e_s1 ∧ ((doneE l q.e_s1 != (0 : Int)) = true → (vcRc_q1 c e) ∧ True) ∧ (vcRc_q2 l q c e)) ∧ ((q.hkind == (5 : Int)) = false → ((q.hkind == (6 : Int)) = true → (((0 : Nat) = (0 : Nat) ∧ (0 : Nat) = (0 : Nat)) ∧ True) ∧ ((rmLe l q.hs2 q.hs2) ∧ True) ∧ ROk l q.hs2 ∧ (q.e_plan, q.e_s1) = uintS l q.hs2 ∧ (((0 : Nat) = (0 : Nat) ∧ (0 : Nat) = (0 : Nat)) ∧ True) ∧ ((rmLe l q.e_s1 q.e_s1) ∧ True) ∧ ROk l q.e_s1 ∧ ((doneE l q.e_s1 != (0 : Int)) = true → (vcRc_q1 c e) ∧ True) ∧ (vcRc_q2 l q c e)) ∧ ((q.hkind == (6 : Int)) = false → (((0 : Nat) = (0 : Nat) ∧ (0 : Nat) = (0 : Nat)) ∧ True) ∧ ((rmLe l q.hs2 q.hs2) ∧ True) ∧ ROk l q.hs2 ∧ ((doneE l q.hs2 != (0 : Int)) = true → (vcRc_q1 c e) ∧ True) ∧ ((doneE l q.hs2 != (0 : Int)) = false → ((q.hkind = q.hkind ∧ q.hepoch = q.hepoch ∧ (0 : Int) = (0 : Int) ∧ (0 : Int) = (0 : Int) ∧ { data := #[] : ByteArray } = ByteArray.empty ∧ (0 : Nat) = (0 : Nat) ∧ (0 : Int) = (0 : Int) ∧ (0 : Int) = (0 : Int) ∧ { data := #[] : ByteArray } = ByteArray.empty ∧ (0 : Int) = (0 : Int) ∧ True) ∧ True) ∧ True ∧ ((!R.wellB { kind := q.hkind, epoch := q.hepoch, prod := (0 : Int), seq := (0 : Int), key := ByteArray.empty, val := [], off := (0 : Int), most := (0 : Int), name := ByteArray.empty, plan := (0 : Int) : R.Cmd }) = true → (vcRc_q1 c e) ∧ True) ∧ ((!R.wellB { kind := q.hkind, epoch := q.hepoch, prod := (0 : Int), seq := (0 : Int), key := ByteArray.empty, val := [], off := (0 : Int), most := (0 : Int), name := ByteArray.empty, plan := (0 : Int) : R.Cmd }) = false → ((q.hkind = c.kind ∧ q.hepoch = c.epoch ∧ (0 : Int) = c.prod ∧ (0 : Int) = c.seq ∧ { data := #[] : ByteArray } = c.key ∧ List.length c.val = (0 : Nat) ∧ (0 : Int) = c.off ∧ (0 : Int) = c.most ∧ { data := #[] : ByteArray } = c.name ∧ (0 : Int) = c.plan ∧ True) ∧ (0 : Int) = e ∧ True) ∧ True))))))))
theorem vcRc_eq (b : Bool) (l : List Int) (q : RcP) (c : R.Cmd) (e : Int) : (ctrVC Tryz.prog (rcH b l q) 26 [encBs b l] [] (rcR c e)) = vcRc b l q c e := by kernel_rfl
end Go.Proofs.YtnbhdjadlbhknaaGreatDoor.J

namespace Go.Proofs.YtnbhdjadlbhknaaGreatDoor.J
open Go.Ax
set_option maxRecDepth 1000000
theorem int_ok {l : List Int} {s : RS} (h : ROk l s) {v : Int} {s' : RS} (e : (v, s') = intS l s) : ROk l s' := by
  rw [show s' = (uintS l s).2 from congrArg Prod.snd e]
  exact (uintS_ok h).1
theorem rok0 {l : List Int} (hl : LOk l) (hb : Bytes l) : ROk l default := ⟨hl.n, Nat.zero_le _, hb, fun _ => rfl⟩
structure RlOk (l : List Int) : Prop where
  n : LOk l
  b : Bytes l
theorem rc_c (b : Bool) (l : List Int) (h : RlOk l) : (rcR (rcS l).1 (rcS l).2).Sat (ACall' Tryz.prog 26 [encBs b l] []) := by
  have hl := h.n
  have k0 := rok0 h.n h.b
  obtain ⟨hkind, hs1, e_hkind⟩ : ∃ v t, (v, t) = intS l default := ⟨_, _, rfl⟩
  have k_hs1 := int_ok k0 e_hkind
  obtain ⟨hepoch, hs2, e_hepoch⟩ : ∃ v t, (v, t) = uintS l hs1 := ⟨_, _, rfl⟩
  have k_hs2 := (rd_ok k_hs1 e_hepoch).1
  obtain ⟨a_prod, a_s1, e_a_prod⟩ : ∃ v t, (v, t) = uintS l hs2 := ⟨_, _, rfl⟩
  have k_a_s1 := (rd_ok k_hs2 e_a_prod).1
  obtain ⟨a_seq, a_s2, e_a_seq⟩ : ∃ v t, (v, t) = uintS l a_s1 := ⟨_, _, rfl⟩
  have k_a_s2 := (rd_ok k_a_s1 e_a_seq).1
  obtain ⟨a_key, a_s3, e_a_key⟩ : ∃ v t, (v, t) = strS l a_s2 32 := ⟨_, _, rfl⟩
  have k_a_s3 := str_ok k_a_s2 e_a_key
  obtain ⟨a_val, a_s4, e_a_val⟩ : ∃ v t, (v, t) = bytesS l a_s3 256 := ⟨_, _, rfl⟩
  have k_a_s4 := byt_ok k_a_s3 e_a_val
  obtain ⟨b_off, b_s1, e_b_off⟩ : ∃ v t, (v, t) = uintS l hs2 := ⟨_, _, rfl⟩
  have k_b_s1 := (rd_ok k_hs2 e_b_off).1
  obtain ⟨b_most, b_s2, e_b_most⟩ : ∃ v t, (v, t) = intS l b_s1 := ⟨_, _, rfl⟩
  have k_b_s2 := int_ok k_b_s1 e_b_most
  obtain ⟨c_prod, c_s1, e_c_prod⟩ : ∃ v t, (v, t) = uintS l hs2 := ⟨_, _, rfl⟩
  have k_c_s1 := (rd_ok k_hs2 e_c_prod).1
  obtain ⟨c_seq, c_s2, e_c_seq⟩ : ∃ v t, (v, t) = uintS l c_s1 := ⟨_, _, rfl⟩
  have k_c_s2 := (rd_ok k_c_s1 e_c_seq).1
  obtain ⟨c_name, c_s3, e_c_name⟩ : ∃ v t, (v, t) = strS l c_s2 32 := ⟨_, _, rfl⟩
  have k_c_s3 := str_ok k_c_s2 e_c_name
  obtain ⟨c_off, c_s4, e_c_off⟩ : ∃ v t, (v, t) = uintS l c_s3 := ⟨_, _, rfl⟩
  have k_c_s4 := (rd_ok k_c_s3 e_c_off).1
  obtain ⟨d_name, d_s1, e_d_name⟩ : ∃ v t, (v, t) = strS l hs2 32 := ⟨_, _, rfl⟩
  have k_d_s1 := str_ok k_hs2 e_d_name
  obtain ⟨e_plan, e_s1, e_e_plan⟩ : ∃ v t, (v, t) = uintS l hs2 := ⟨_, _, rfl⟩
  have k_e_s1 := (rd_ok k_hs2 e_e_plan).1
  have hr1 : rcProduce l = (⟨hkind, hepoch, a_prod, a_seq, a_key, a_val, 0, 0, ByteArray.empty, 0⟩, a_s4) := by
    unfold rcProduce
    simp only [← e_hkind, ← e_hepoch, ← e_a_prod, ← e_a_seq, ← e_a_key, ← e_a_val]
  have hr2 : rcFetch l = (⟨hkind, hepoch, 0, 0, ByteArray.empty, [], b_off, b_most, ByteArray.empty, 0⟩, b_s2) := by
    unfold rcFetch
    simp only [← e_hkind, ← e_hepoch, ← e_b_off, ← e_b_most]
  have hr3 : rcCommit l = (⟨hkind, hepoch, c_prod, c_seq, ByteArray.empty, [], c_off, 0, c_name, 0⟩, c_s4) := by
    unfold rcCommit
    simp only [← e_hkind, ← e_hepoch, ← e_c_prod, ← e_c_seq, ← e_c_name, ← e_c_off]
  have hr4 : rcRead l = (⟨hkind, hepoch, 0, 0, ByteArray.empty, [], 0, 0, d_name, 0⟩, d_s1) := by
    unfold rcRead
    simp only [← e_hkind, ← e_hepoch, ← e_d_name]
  have hr5 : rcPlan l = (⟨hkind, hepoch, 0, 0, ByteArray.empty, [], 0, 0, ByteArray.empty, e_plan⟩, e_s1) := by
    unfold rcPlan
    simp only [← e_hkind, ← e_hepoch, ← e_e_plan]
  have hr0 : rcNone l = (⟨hkind, hepoch, 0, 0, ByteArray.empty, [], 0, 0, ByteArray.empty, 0⟩, hs2) := by
    unfold rcNone
    simp only [← e_hkind, ← e_hepoch]
  have hk : rcKind l = hkind := by
    unfold rcKind
    rw [← e_hkind]
  refine ctr_vc (ht := rcH b l ⟨hkind, hs1, hepoch, hs2, a_prod, a_s1, a_seq, a_s2, a_key, a_s3, a_val, a_s4, b_off, b_s1, b_most, b_s2, c_prod, c_s1, c_seq, c_s2, c_name, c_s3, c_off, c_s4, d_name, d_s1, e_plan, e_s1⟩) Tryz.mixed rfl ?_
  rw [vcRc_eq b l ⟨hkind, hs1, hepoch, hs2, a_prod, a_s1, a_seq, a_s2, a_key, a_s3, a_val, a_s4, b_off, b_s1, b_most, b_s2, c_prod, c_s1, c_seq, c_s2, c_name, c_s3, c_off, c_s4, d_name, d_s1, e_plan, e_s1⟩ (rcS l).1 (rcS l).2]
  unfold vcRc vcRc_q2 vcRc_q1
  have q := i64_32
  have q2 := i64_256
  have z0 : (default : R.Cmd) = ⟨0, 0, 0, 0, ByteArray.empty, [], 0, 0, ByteArray.empty, 0⟩ := rfl
  have z1 : ByteArray.empty = (⟨#[]⟩ : ByteArray) := rfl
  have fin : ∀ (c : R.Cmd) (s : RS), rcRaw l = (c, s) → rcS l = (if doneE l s = 0 ∧ R.wellB c = true then (c, 0) else (default, 161)) := by
    intro c s e
    unfold rcS
    rw [e]
  obtain ⟨p_hkind, p2_hkind⟩ := Prod.mk.inj e_hkind
  obtain ⟨p_a_key, p2_a_key⟩ := Prod.mk.inj e_a_key
  obtain ⟨p_b_most, p2_b_most⟩ := Prod.mk.inj e_b_most
  obtain ⟨p_c_name, p2_c_name⟩ := Prod.mk.inj e_c_name
  obtain ⟨p_d_name, p2_d_name⟩ := Prod.mk.inj e_d_name
  by_cases m1 : hkind = 1
  · 
    have hf := fin _ _ (show rcRaw l = (⟨hkind, hepoch, a_prod, a_seq, a_key, a_val, 0, 0, ByteArray.empty, 0⟩, a_s4) from by unfold rcRaw; rw [hk]; simp [m1, hr1])
    rw [hf]
    by_cases hd : doneE l a_s4 = 0
    · cases hw : R.wellB (⟨hkind, hepoch, a_prod, a_seq, a_key, a_val, 0, 0, ByteArray.empty, 0⟩ : R.Cmd)
      · simp [m1, hl, k0, q, q2, k_hs1, k_hs2, k_a_s1, k_a_s2, k_a_s3, k_a_s4, k_b_s1, k_b_s2, k_c_s1, k_c_s2, k_c_s3, k_c_s4, k_d_s1, k_e_s1, hd, hw, z0, z1]
        repeat' with_reducible apply And.intro
        all_goals first | assumption | (rw [← m1]; assumption)
      · simp [m1, hl, k0, q, q2, k_hs1, k_hs2, k_a_s1, k_a_s2, k_a_s3, k_a_s4, k_b_s1, k_b_s2, k_c_s1, k_c_s2, k_c_s3, k_c_s4, k_d_s1, k_e_s1, hd, hw, z0, z1]
        repeat' with_reducible apply And.intro
        all_goals first | assumption | (rw [← m1]; assumption)
    · simp [m1, hl, k0, q, q2, k_hs1, k_hs2, k_a_s1, k_a_s2, k_a_s3, k_a_s4, k_b_s1, k_b_s2, k_c_s1, k_c_s2, k_c_s3, k_c_s4, k_d_s1, k_e_s1, hd, z0, z1]
      repeat' with_reducible apply And.intro
      all_goals first | assumption | (rw [← m1]; assumption)
  by_cases m2 : hkind = 2
  · 
    have hf := fin _ _ (show rcRaw l = (⟨hkind, hepoch, 0, 0, ByteArray.empty, [], b_off, b_most, ByteArray.empty, 0⟩, b_s2) from by unfold rcRaw; rw [hk]; simp [m2, hr2])
    rw [hf]
    by_cases hd : doneE l b_s2 = 0
    · cases hw : R.wellB (⟨hkind, hepoch, 0, 0, ByteArray.empty, [], b_off, b_most, ByteArray.empty, 0⟩ : R.Cmd)
      · simp [m2, hl, k0, q, q2, k_hs1, k_hs2, k_a_s1, k_a_s2, k_a_s3, k_a_s4, k_b_s1, k_b_s2, k_c_s1, k_c_s2, k_c_s3, k_c_s4, k_d_s1, k_e_s1, hd, hw, z0, z1]
        repeat' with_reducible apply And.intro
        all_goals first | assumption | (rw [← m2]; assumption)
      · simp [m2, hl, k0, q, q2, k_hs1, k_hs2, k_a_s1, k_a_s2, k_a_s3, k_a_s4, k_b_s1, k_b_s2, k_c_s1, k_c_s2, k_c_s3, k_c_s4, k_d_s1, k_e_s1, hd, hw, z0, z1]
        repeat' with_reducible apply And.intro
        all_goals first | assumption | (rw [← m2]; assumption)
    · simp [m2, hl, k0, q, q2, k_hs1, k_hs2, k_a_s1, k_a_s2, k_a_s3, k_a_s4, k_b_s1, k_b_s2, k_c_s1, k_c_s2, k_c_s3, k_c_s4, k_d_s1, k_e_s1, hd, z0, z1]
      repeat' with_reducible apply And.intro
      all_goals first | assumption | (rw [← m2]; assumption)
  by_cases m3 : hkind = 3
  · 
    have hf := fin _ _ (show rcRaw l = (⟨hkind, hepoch, c_prod, c_seq, ByteArray.empty, [], c_off, 0, c_name, 0⟩, c_s4) from by unfold rcRaw; rw [hk]; simp [m3, hr3])
    rw [hf]
    by_cases hd : doneE l c_s4 = 0
    · cases hw : R.wellB (⟨hkind, hepoch, c_prod, c_seq, ByteArray.empty, [], c_off, 0, c_name, 0⟩ : R.Cmd)
      · simp [m3, hl, k0, q, q2, k_hs1, k_hs2, k_a_s1, k_a_s2, k_a_s3, k_a_s4, k_b_s1, k_b_s2, k_c_s1, k_c_s2, k_c_s3, k_c_s4, k_d_s1, k_e_s1, hd, hw, z0, z1]
        repeat' with_reducible apply And.intro
        all_goals first | assumption | (rw [← m3]; assumption)
      · simp [m3, hl, k0, q, q2, k_hs1, k_hs2, k_a_s1, k_a_s2, k_a_s3, k_a_s4, k_b_s1, k_b_s2, k_c_s1, k_c_s2, k_c_s3, k_c_s4, k_d_s1, k_e_s1, hd, hw, z0, z1]
        repeat' with_reducible apply And.intro
        all_goals first | assumption | (rw [← m3]; assumption)
    · simp [m3, hl, k0, q, q2, k_hs1, k_hs2, k_a_s1, k_a_s2, k_a_s3, k_a_s4, k_b_s1, k_b_s2, k_c_s1, k_c_s2, k_c_s3, k_c_s4, k_d_s1, k_e_s1, hd, z0, z1]
      repeat' with_reducible apply And.intro
      all_goals first | assumption | (rw [← m3]; assumption)
  by_cases m4 : hkind = 4
  · 
    have hf := fin _ _ (show rcRaw l = (⟨hkind, hepoch, 0, 0, ByteArray.empty, [], 0, 0, d_name, 0⟩, d_s1) from by unfold rcRaw; rw [hk]; simp [m4, hr4])
    rw [hf]
    by_cases hd : doneE l d_s1 = 0
    · cases hw : R.wellB (⟨hkind, hepoch, 0, 0, ByteArray.empty, [], 0, 0, d_name, 0⟩ : R.Cmd)
      · simp [m4, hl, k0, q, q2, k_hs1, k_hs2, k_a_s1, k_a_s2, k_a_s3, k_a_s4, k_b_s1, k_b_s2, k_c_s1, k_c_s2, k_c_s3, k_c_s4, k_d_s1, k_e_s1, hd, hw, z0, z1]
        repeat' with_reducible apply And.intro
        all_goals first | assumption | (rw [← m4]; assumption)
      · simp [m4, hl, k0, q, q2, k_hs1, k_hs2, k_a_s1, k_a_s2, k_a_s3, k_a_s4, k_b_s1, k_b_s2, k_c_s1, k_c_s2, k_c_s3, k_c_s4, k_d_s1, k_e_s1, hd, hw, z0, z1]
        repeat' with_reducible apply And.intro
        all_goals first | assumption | (rw [← m4]; assumption)
    · simp [m4, hl, k0, q, q2, k_hs1, k_hs2, k_a_s1, k_a_s2, k_a_s3, k_a_s4, k_b_s1, k_b_s2, k_c_s1, k_c_s2, k_c_s3, k_c_s4, k_d_s1, k_e_s1, hd, z0, z1]
      repeat' with_reducible apply And.intro
      all_goals first | assumption | (rw [← m4]; assumption)
  by_cases m5 : hkind = 5
  · 
    have hf := fin _ _ (show rcRaw l = (⟨hkind, hepoch, 0, 0, ByteArray.empty, [], 0, 0, ByteArray.empty, e_plan⟩, e_s1) from by unfold rcRaw; rw [hk]; simp [m5, hr5])
    rw [hf]
    by_cases hd : doneE l e_s1 = 0
    · cases hw : R.wellB (⟨hkind, hepoch, 0, 0, ByteArray.empty, [], 0, 0, ByteArray.empty, e_plan⟩ : R.Cmd)
      · simp [m5, hl, k0, q, q2, k_hs1, k_hs2, k_a_s1, k_a_s2, k_a_s3, k_a_s4, k_b_s1, k_b_s2, k_c_s1, k_c_s2, k_c_s3, k_c_s4, k_d_s1, k_e_s1, hd, hw, z0, z1]
        repeat' with_reducible apply And.intro
        all_goals first | assumption | (rw [← m5]; assumption)
      · simp [m5, hl, k0, q, q2, k_hs1, k_hs2, k_a_s1, k_a_s2, k_a_s3, k_a_s4, k_b_s1, k_b_s2, k_c_s1, k_c_s2, k_c_s3, k_c_s4, k_d_s1, k_e_s1, hd, hw, z0, z1]
        repeat' with_reducible apply And.intro
        all_goals first | assumption | (rw [← m5]; assumption)
    · simp [m5, hl, k0, q, q2, k_hs1, k_hs2, k_a_s1, k_a_s2, k_a_s3, k_a_s4, k_b_s1, k_b_s2, k_c_s1, k_c_s2, k_c_s3, k_c_s4, k_d_s1, k_e_s1, hd, z0, z1]
      repeat' with_reducible apply And.intro
      all_goals first | assumption | (rw [← m5]; assumption)
  by_cases m6 : hkind = 6
  · 
    have hf := fin _ _ (show rcRaw l = (⟨hkind, hepoch, 0, 0, ByteArray.empty, [], 0, 0, ByteArray.empty, e_plan⟩, e_s1) from by unfold rcRaw; rw [hk]; simp [m6, hr5])
    rw [hf]
    by_cases hd : doneE l e_s1 = 0
    · cases hw : R.wellB (⟨hkind, hepoch, 0, 0, ByteArray.empty, [], 0, 0, ByteArray.empty, e_plan⟩ : R.Cmd)
      · simp [m6, hl, k0, q, q2, k_hs1, k_hs2, k_a_s1, k_a_s2, k_a_s3, k_a_s4, k_b_s1, k_b_s2, k_c_s1, k_c_s2, k_c_s3, k_c_s4, k_d_s1, k_e_s1, hd, hw, z0, z1]
        repeat' with_reducible apply And.intro
        all_goals first | assumption | (rw [← m6]; assumption)
      · simp [m6, hl, k0, q, q2, k_hs1, k_hs2, k_a_s1, k_a_s2, k_a_s3, k_a_s4, k_b_s1, k_b_s2, k_c_s1, k_c_s2, k_c_s3, k_c_s4, k_d_s1, k_e_s1, hd, hw, z0, z1]
        repeat' with_reducible apply And.intro
        all_goals first | assumption | (rw [← m6]; assumption)
    · simp [m6, hl, k0, q, q2, k_hs1, k_hs2, k_a_s1, k_a_s2, k_a_s3, k_a_s4, k_b_s1, k_b_s2, k_c_s1, k_c_s2, k_c_s3, k_c_s4, k_d_s1, k_e_s1, hd, z0, z1]
      repeat' with_reducible apply And.intro
      all_goals first | assumption | (rw [← m6]; assumption)
  · 
    have hf := fin _ _ (show rcRaw l = (⟨hkind, hepoch, 0, 0, ByteArray.empty, [], 0, 0, ByteArray.empty, 0⟩, hs2) from by unfold rcRaw; rw [hk]; simp [m1, m2, m3, m4, m5, m6, hr0])
    rw [hf]
    by_cases hd : doneE l hs2 = 0
    · cases hw : R.wellB (⟨hkind, hepoch, 0, 0, ByteArray.empty, [], 0, 0, ByteArray.empty, 0⟩ : R.Cmd)
      · simp [m1, m2, m3, m4, m5, m6, hl, k0, q, q2, k_hs1, k_hs2, k_a_s1, k_a_s2, k_a_s3, k_a_s4, k_b_s1, k_b_s2, k_c_s1, k_c_s2, k_c_s3, k_c_s4, k_d_s1, k_e_s1, hd, hw, z0, z1]
        repeat' with_reducible apply And.intro
        all_goals first | assumption | (rw [← m6]; assumption)
      · simp [m1, m2, m3, m4, m5, m6, hl, k0, q, q2, k_hs1, k_hs2, k_a_s1, k_a_s2, k_a_s3, k_a_s4, k_b_s1, k_b_s2, k_c_s1, k_c_s2, k_c_s3, k_c_s4, k_d_s1, k_e_s1, hd, hw, z0, z1]
        repeat' with_reducible apply And.intro
        all_goals first | assumption | (rw [← m6]; assumption)
    · simp [m1, m2, m3, m4, m5, m6, hl, k0, q, q2, k_hs1, k_hs2, k_a_s1, k_a_s2, k_a_s3, k_a_s4, k_b_s1, k_b_s2, k_c_s1, k_c_s2, k_c_s3, k_c_s4, k_d_s1, k_e_s1, hd, z0, z1]
      repeat' with_reducible apply And.intro
      all_goals first | assumption | (rw [← m6]; assumption)
noncomputable def rcC (b : Bool) (l : List Int) (c : R.Cmd) (e : Int) : Ctr Tryz.prog := ⟨26, [encBs b l], [], .need (RlOk l) (.need ((c, e) = rcS l) (rcR c e)), T.Sat.need fun h => T.Sat.need fun q => by
  have e1 : c = (rcS l).1 := congrArg Prod.fst q
  have e2 : e = (rcS l).2 := congrArg Prod.snd q
  rw [e1, e2]
  exact rc_c b l h⟩
end Go.Proofs.YtnbhdjadlbhknaaGreatDoor.J

namespace Go.Proofs.YtnbhdjadlbhknaaGreatDoor.J
open Go.Ax
set_option maxRecDepth 1000000
def dem : AV → AV
  | .ys _ sz n c => .ys false sz n c
  | a => a
theorem rel_dem {H : HH} (hH : (H true).le (H false)) {a : AV} {E : Env} {v : Value} (h : Rel a H E v) : Rel (dem a) H E v := by
  cases a with
  | ys b sz n c =>
    cases b with
    | false => exact h
    | true =>
      obtain ⟨ad, cap, hu, hn, hk⟩ := h
      refine ⟨ad, cap, hu, hn, fun h0 => ?_⟩
      obtain ⟨a', ha, hk⟩ := hk h0
      refine ⟨a', ha, fun k hkn j hj => ?_⟩
      obtain ⟨x, hx, h1, h2⟩ := hk k hkn j hj
      refine ⟨x, IH.le_cell hH hx, h1, Rel.mono (c k j) (fun b => ?_) h2⟩
      cases b with
      | false => exact hH
      | true => exact IH.le_refl _
  | _ => exact h
theorem relL_dem {H : HH} (hH : (H true).le (H false)) {E : Env} : ∀ {l : List AV} {vs : List Value}, RelL l H E vs → RelL (l.map dem) H E vs
  | [], _, h => h
  | _ :: _, _, h => by
    obtain ⟨v, r, hv, h1, h2⟩ := h
    exact ⟨v, r, hv, rel_dem hH h1, relL_dem hH h2⟩
theorem acall_res {P : Program} {f : FuncId} {args : List AV} {M M' : List Blk} {r r' : AV} {mv : List Nat} (hr : ∀ (H : HH) (E : Env) (v : Value), (H true).le (H false) → Rel r H E v → Rel r' H E v) (h : ACall P f args M r M' mv) : ACall P f args M r' M' mv := by
  intro H E w vals hC hargs
  refine (h H E w vals hC hargs).mono ?_
  rintro e w' ⟨v, H', E', he, hv, hc, hev⟩
  exact ⟨v, H', E', he, hr _ _ _ hc.tf.1 hv, hc, hev⟩
noncomputable def lC0 (l : List Int) (s : RS) (most : Int) (t : List Rec) (s' : RS) : Ctr Tryz.prog := ⟨85, [rP, .y (.int .i64 most)], rM l s, .need (ROk l s ∧ I64 most ∧ most ≤ 4096) (.need ((t, s') = listS l s most) (.ret (encRs false t, rM l s', []))), T.Sat.need fun h => T.Sat.need fun e => by
  have e1 : t = (listS l s most).1 := congrArg Prod.fst e
  have e2 : s' = (listS l s most).2 := congrArg Prod.snd e
  rw [e1, e2]
  have h1 : ACall' Tryz.prog 85 [rP, .y (.int .i64 most)] (rM l s) (encRs true (listS l s most).1, rM l (listS l s most).2, []) := of_retJ (l_c l s most h.2.1 h.2.2 h.1)
  have h2 : ACall' Tryz.prog 85 [rP, .y (.int .i64 most)] (rM l s) (encRs false (listS l s most).1, rM l (listS l s most).2, []) := acall_res (fun H E v hH hr => by
    have := rel_dem hH hr
    exact this) h1
  exact T.Sat.ret h2⟩
def rxRaw (l : List Int) : R.Res × RS :=
  let a := intS l default; let b := uintS l a.2; let c := boolS l b.2; let d := listS l c.2 64
  (⟨a.1, b.1, c.1, d.1⟩, d.2)
def rxS (l : List Int) : R.Res × Int := if doneE l (rxRaw l).2 = 0 then ((rxRaw l).1, 0) else (default, 161)
noncomputable def rxH (b : Bool) (l : List Int) (a : Int) (s1 : RS) (u : Int) (s2 : RS) (c : Bool) (s3 : RS) (d : List Rec) (s4 : RS) : HintsT Tryz.prog := suR (hh _ noLp (cs1 25 1 1 (nrC b l) (cs1 25 2 1 (iC l default a s1) (cs1 25 3 1 (uC l s1 u s2) (cs1 25 3 3 (bC l s2 c s3) (cs1 25 4 1 (lC l s3 64 d s4) (cs1 25 5 1 (dC l s4) noCs)))))) noOp)
def prodS (l : List Int) (s : RS) : P.Producer × RS :=
  let a := uintS l s; let b := uintS l a.2; let c := boolS l b.2; let d := uintS l c.2
  (⟨a.1, b.1, c.1, d.1⟩, d.2)
def conS (l : List Int) (s : RS) : Con × RS :=
  let a := strS l s 32; let b := uintS l a.2
  (⟨a.1, b.1⟩, b.2)
def manyS {α : Type} (f : RS → α × RS) : Nat → RS → List α → List α × RS
  | 0, s, a => (a, s)
  | n + 1, s, a => manyS f n (f s).2 (a ++ [(f s).1])
def prodsS (l : List Int) (s : RS) : List P.Producer × RS := manyS (prodS l) (countS l s 256).1.toNat (countS l s 256).2 []
def consS (l : List Int) (s : RS) : List Con × RS := manyS (conS l) (countS l s 64).1.toNat (countS l s 64).2 []
structure HdP where
  rng : Rng
  epoch : Int
  frozen : Int
  recs : List Rec
def rpM (l : List Int) (s : RS) (h : HdP) (a : List P.Producer) (c : List Con) : List Blk := [.box 30 [.s (.string ByteArray.empty), .s (.string ByteArray.empty), .s (.int .u64 0), .s (.int .u64 0), .s (.slice none 0 0), .s (.slice none 0 0), .s (.slice none 0 0)], .box 175 [encBs true l, .y (.int .i64 s.at_), .opt s.f 206 (rerr s)], .row 80 4 a.length none (cellsOf' P.encP a), rowC c, .box 30 [.y (.string h.rng.lo), .y (.string h.rng.hi), .y (.int .u64 h.epoch), .y (.int .u64 h.frozen), encRs false h.recs, .own 2 4 0 a.length, .own 3 2 0 c.length]]
structure PQ (l : List Int) (t : List P.Producer) (s' : RS) where
  n : Nat
  s : RS
  a : List P.Producer
  e : manyS (prodS l) n s a = (t, s')
  h : ROk l s
  m : a.length + n ≤ 100000
structure CQ (l : List Int) (t : List Con) (s' : RS) where
  n : Nat
  s : RS
  a : List Con
  e : manyS (conS l) n s a = (t, s')
  h : ROk l s
  m : a.length + n ≤ 100000
def pqT (n : Nat) : List AV := mkT 75 [(2, .ptr 0 0 0 0), (4, rP), (5, .ptr 4 0 0 0), (6, .y (.int .i64 n))]
def cqT (n : Nat) : List AV := mkT 75 [(2, .ptr 0 0 0 0), (4, rP), (5, .ptr 4 0 0 0), (8, .y (.int .i64 n))]
def pqS (l : List Int) (h : HdP) (t : List P.Producer) (s' : RS) (_ : Unit) : Exit × List AV × List Blk := (.exit 0, pqT 0, rpM l s' h t [])
def cqS (l : List Int) (h : HdP) (p : List P.Producer) (t : List Con) (s' : RS) (_ : Unit) : Exit × List AV × List Blk := (.exit 2, cqT 0, rpM l s' h p t)
noncomputable def pqH (l : List Int) (s : RS) (a : Int) (s1 : RS) (b : Int) (s2 : RS) (c : Bool) (s3 : RS) (d : Int) (s4 : RS) : HintsT Tryz.prog := suR (withSh (hh _ noLp (cs1 27 8 1 (uC l s a s1) (cs1 27 8 3 (uC l s1 b s2) (cs1 27 9 1 (bC l s2 c s3) (cs1 27 9 3 (uC l s3 d s4) noCs)))) noOp) (sh1 27 10 6 4 noSh))
def vcPq (l : List Int) (h : HdP) (t : List P.Producer) (s' : RS) (q : PQ l t s') (a : Int) (s1 : RS) (b : Int) (s2 : RS) (c : Bool) (s3 : RS) (d : Int) (s4 : RS) : Prop :=
  (decide ((0 : Int) < (↑q.n : Int)) = true → (((0 : Nat) = (0 : Nat) ∧ (0 : Nat) = (0 : Nat)) ∧ True) ∧ ((rmLe l q.s q.s) ∧ True) ∧ ROk l q.s ∧ (a, s1) = uintS l q.s ∧ (((0 : Nat) = (0 : Nat) ∧ (0 : Nat) = (0 : Nat)) ∧ True) ∧ ((rmLe l s1 s1) ∧ True) ∧ ROk l s1 ∧ (b, s2) = uintS l s1 ∧ (((0 : Nat) = (0 : Nat) ∧ (0 : Nat) = (0 : Nat)) ∧ True) ∧ ((rmLe l s2 s2) ∧ True) ∧ ROk l s2 ∧ (c, s3) = boolS l s2 ∧ (((0 : Nat) = (0 : Nat) ∧ (0 : Nat) = (0 : Nat)) ∧ True) ∧ ((rmLe l s3 s3) ∧ True) ∧ ROk l s3 ∧ (d, s4) = uintS l s3 ∧ (decide (List.length q.a = List.length q.a) && decide (List.length q.a + (1 : Nat) ≤ (9223372036854775807 : Nat)) && decide ((List.length q.a + (1 : Nat)) * (32 : Nat) ≤ (140737488355328 : Nat))) = true ∧ ∃ (j : PQ l t s'), j.n < q.n ∧ ((((0 : Nat) = (0 : Nat) ∧ (0 : Nat) = (0 : Nat)) ∧ ((0 : Nat) = (0 : Nat) ∧ (0 : Nat) = (0 : Nat)) ∧ ((0 : Nat) = (0 : Nat) ∧ (0 : Nat) = (0 : Nat)) ∧ IntKind.wrap IntKind.i64 ((↑q.n : Int) - (1 : Int)) = (↑j.n : Int) ∧ True) ∧ ((ByteArray.empty = ByteArray.empty ∧ ByteArray.empty = ByteArray.empty ∧ (0 : Int) = (0 : Int) ∧ (0 : Int) = (0 : Int) ∧ True ∧ True ∧ True ∧ True) ∧ (rmLe l s4 j.s) ∧ (List.length q.a + (1 : Nat) = List.length j.a ∧ contLe (List.length q.a + (1 : Nat)) (4 : Nat) (appRow (List.length q.a) (cellsOf' P.encP q.a) fun (k j : Nat) => Ax.get [AV.y (Value.int IntKind.u64 a), AV.y (Value.int IntKind.u64 b), AV.y (Value.bool c), AV.y (Value.int IntKind.u64 d)] (k * (4 : Nat) + j)) (cellsOf' P.encP j.a)) ∧ ((0 : Nat) = (0 : Nat) ∧ contLe (0 : Nat) (2 : Nat) (cellsOf' encC []) (cellsOf' encC [])) ∧ (h.rng.lo = h.rng.lo ∧ h.rng.hi = h.rng.hi ∧ h.epoch = h.epoch ∧ h.frozen = h.frozen ∧ (false = false ∧ List.length h.recs = List.length h.recs ∧ contLe (List.length h.recs) (5 : Nat) (cellsOf' encR h.recs) (cellsOf' encR h.recs)) ∧ ((0 : Nat) = (0 : Nat) ∧ List.length q.a + (1 : Nat) = List.length j.a) ∧ ((0 : Nat) = (0 : Nat) ∧ (0 : Nat) = (0 : Nat)) ∧ True) ∧ True) ∧ true = true) ∧ true = true ∧ () = ()) ∧ (decide ((0 : Int) < (↑q.n : Int)) = false → (((0 : Nat) = (0 : Nat) ∧ (0 : Nat) = (0 : Nat)) ∧ ((0 : Nat) = (0 : Nat) ∧ (0 : Nat) = (0 : Nat)) ∧ ((0 : Nat) = (0 : Nat) ∧ (0 : Nat) = (0 : Nat)) ∧ (↑q.n : Int) = (0 : Int) ∧ True) ∧ ((ByteArray.empty = ByteArray.empty ∧ ByteArray.empty = ByteArray.empty ∧ (0 : Int) = (0 : Int) ∧ (0 : Int) = (0 : Int) ∧ True ∧ True ∧ True ∧ True) ∧ (rmLe l q.s s') ∧ (List.length q.a = List.length t ∧ contLe (List.length q.a) (4 : Nat) (cellsOf' P.encP q.a) (cellsOf' P.encP t)) ∧ ((0 : Nat) = (0 : Nat) ∧ contLe (0 : Nat) (2 : Nat) (cellsOf' encC []) (cellsOf' encC [])) ∧ (h.rng.lo = h.rng.lo ∧ h.rng.hi = h.rng.hi ∧ h.epoch = h.epoch ∧ h.frozen = h.frozen ∧ (false = false ∧ List.length h.recs = List.length h.recs ∧ contLe (List.length h.recs) (5 : Nat) (cellsOf' encR h.recs) (cellsOf' encR h.recs)) ∧ ((0 : Nat) = (0 : Nat) ∧ List.length q.a = List.length t) ∧ ((0 : Nat) = (0 : Nat) ∧ (0 : Nat) = (0 : Nat)) ∧ True) ∧ True) ∧ true = true)
theorem vcPq_eq (l : List Int) (h : HdP) (t : List P.Producer) (s' : RS) (q : PQ l t s') (a : Int) (s1 : RS) (b : Int) (s2 : RS) (c : Bool) (s3 : RS) (d : Int) (s4 : RS) : (loopVC Tryz.prog (pqH l q.s a s1 b s2 c s3 d s4) 27 6 (fun q : PQ l t s' => q.n) (fun q => pqT q.n) (fun q => rpM l q.s h q.a []) [2, 5, 6] (fun _ => .ret ()) (pqS l h t s') q) = vcPq l h t s' q a s1 b s2 c s3 d s4 := by kernel_rfl
noncomputable def cqH (l : List Int) (s : RS) (a : ByteArray) (s1 : RS) (b : Int) (s2 : RS) : HintsT Tryz.prog := suR (withSh (hh _ noLp (cs1 27 14 1 (sC l s 32 a s1) (cs1 27 15 1 (uC l s1 b s2) noCs)) noOp) (sh1 27 16 6 5 noSh))
def vcCq (l : List Int) (h : HdP) (p : List P.Producer) (t : List Con) (s' : RS) (q : CQ l t s') (a : ByteArray) (s1 : RS) (b : Int) (s2 : RS) : Prop :=
  (decide ((0 : Int) < (↑q.n : Int)) = true → (((0 : Nat) = (0 : Nat) ∧ (0 : Nat) = (0 : Nat)) ∧ (32 : Int) = (32 : Int) ∧ True) ∧ ((rmLe l q.s q.s) ∧ True) ∧ (ROk l q.s ∧ I64 (32 : Int)) ∧ (a, s1) = (strOf (bytesS l q.s (32 : Int)).fst, (bytesS l q.s (32 : Int)).snd) ∧ (((0 : Nat) = (0 : Nat) ∧ (0 : Nat) = (0 : Nat)) ∧ True) ∧ ((rmLe l s1 s1) ∧ True) ∧ ROk l s1 ∧ (b, s2) = uintS l s1 ∧ (decide (List.length q.a = List.length q.a) && decide (List.length q.a + (1 : Nat) ≤ (9223372036854775807 : Nat)) && decide ((List.length q.a + (1 : Nat)) * (24 : Nat) ≤ (140737488355328 : Nat))) = true ∧ ∃ (j : CQ l t s'), j.n < q.n ∧ ((((0 : Nat) = (0 : Nat) ∧ (0 : Nat) = (0 : Nat)) ∧ ((0 : Nat) = (0 : Nat) ∧ (0 : Nat) = (0 : Nat)) ∧ ((0 : Nat) = (0 : Nat) ∧ (0 : Nat) = (0 : Nat)) ∧ IntKind.wrap IntKind.i64 ((↑q.n : Int) - (1 : Int)) = (↑j.n : Int) ∧ True) ∧ ((ByteArray.empty = ByteArray.empty ∧ ByteArray.empty = ByteArray.empty ∧ (0 : Int) = (0 : Int) ∧ (0 : Int) = (0 : Int) ∧ True ∧ True ∧ True ∧ True) ∧ (rmLe l s2 j.s) ∧ (List.length p = List.length p ∧ contLe (List.length p) (4 : Nat) (cellsOf' P.encP p) (cellsOf' P.encP p)) ∧ (List.length q.a + (1 : Nat) = List.length j.a ∧ contLe (List.length q.a + (1 : Nat)) (2 : Nat) (appRow (List.length q.a) (cellsOf' encC q.a) fun (k j : Nat) => Ax.get [AV.y (Value.string a), AV.y (Value.int IntKind.u64 b)] (k * (2 : Nat) + j)) (cellsOf' encC j.a)) ∧ (h.rng.lo = h.rng.lo ∧ h.rng.hi = h.rng.hi ∧ h.epoch = h.epoch ∧ h.frozen = h.frozen ∧ (false = false ∧ List.length h.recs = List.length h.recs ∧ contLe (List.length h.recs) (5 : Nat) (cellsOf' encR h.recs) (cellsOf' encR h.recs)) ∧ ((0 : Nat) = (0 : Nat) ∧ List.length p = List.length p) ∧ ((0 : Nat) = (0 : Nat) ∧ List.length q.a + (1 : Nat) = List.length j.a) ∧ True) ∧ True) ∧ true = true) ∧ true = true ∧ () = ()) ∧ (decide ((0 : Int) < (↑q.n : Int)) = false → (((0 : Nat) = (0 : Nat) ∧ (0 : Nat) = (0 : Nat)) ∧ ((0 : Nat) = (0 : Nat) ∧ (0 : Nat) = (0 : Nat)) ∧ ((0 : Nat) = (0 : Nat) ∧ (0 : Nat) = (0 : Nat)) ∧ (↑q.n : Int) = (0 : Int) ∧ True) ∧ ((ByteArray.empty = ByteArray.empty ∧ ByteArray.empty = ByteArray.empty ∧ (0 : Int) = (0 : Int) ∧ (0 : Int) = (0 : Int) ∧ True ∧ True ∧ True ∧ True) ∧ (rmLe l q.s s') ∧ (List.length p = List.length p ∧ contLe (List.length p) (4 : Nat) (cellsOf' P.encP p) (cellsOf' P.encP p)) ∧ (List.length q.a = List.length t ∧ contLe (List.length q.a) (2 : Nat) (cellsOf' encC q.a) (cellsOf' encC t)) ∧ (h.rng.lo = h.rng.lo ∧ h.rng.hi = h.rng.hi ∧ h.epoch = h.epoch ∧ h.frozen = h.frozen ∧ (false = false ∧ List.length h.recs = List.length h.recs ∧ contLe (List.length h.recs) (5 : Nat) (cellsOf' encR h.recs) (cellsOf' encR h.recs)) ∧ ((0 : Nat) = (0 : Nat) ∧ List.length p = List.length p) ∧ ((0 : Nat) = (0 : Nat) ∧ List.length q.a = List.length t) ∧ True) ∧ True) ∧ true = true)
theorem vcCq_eq (l : List Int) (h : HdP) (p : List P.Producer) (t : List Con) (s' : RS) (q : CQ l t s') (a : ByteArray) (s1 : RS) (b : Int) (s2 : RS) : (loopVC Tryz.prog (cqH l q.s a s1 b s2) 27 12 (fun q : CQ l t s' => q.n) (fun q => cqT q.n) (fun q => rpM l q.s h p q.a) [3, 5, 6] (fun _ => .ret ()) (cqS l h p t s') q) = vcCq l h p t s' q a s1 b s2 := by kernel_rfl
def hdS (l : List Int) : HdP × RS :=
  let g := rngS l default; let e := uintS l g.2; let f := uintS l e.2; let r := listS l f.2 4096
  (⟨g.1, e.1, f.1, r.1⟩, r.2)
def rpRaw (l : List Int) : Part × RS :=
  let h := hdS l; let p := prodsS l h.2; let c := consS l p.2
  (⟨h.1.rng, h.1.epoch, h.1.frozen, h.1.recs, p.1, c.1⟩, c.2)
def rpS (l : List Int) : Part × Int := if doneE l (rpRaw l).2 = 0 ∧ partOk (rpRaw l).1 = true then ((rpRaw l).1, 0) else (default, 165)
def encPtM (p : Part) : List AV := [.y (.string p.rng.lo), .y (.string p.rng.hi), .y (.int .u64 p.epoch), .y (.int .u64 p.frozen), encRs false p.recs, P.encPs true p.prods, encCs true p.cons]
def rpR (p : Part) (e : Int) : T An := .ret (.tup [.agg (encPtM p), .y (.int .i64 e)], [], [])
structure RpP (l : List Int) where
  g : Rng
  s1 : RS
  ep : Int
  s2 : RS
  fr : Int
  s3 : RS
  rc : List Rec
  s4 : RS
  n1 : Int
  s5 : RS
  t6 : List P.Producer
  s6 : RS
  n2 : Int
  s7 : RS
  t8 : List Con
  s8 : RS
  q : PQ l t6 s6
  r : CQ l t8 s8
abbrev RpP.hd {l : List Int} (x : RpP l) : HdP := ⟨x.g, x.ep, x.fr, x.rc⟩
abbrev RpP.p {l : List Int} (x : RpP l) : Part := ⟨x.g, x.ep, x.fr, x.rc, x.t6, x.t8⟩
noncomputable def rpH (b : Bool) (l : List Int) (x : RpP l) : HintsT Tryz.prog := suR (withSh (hh _ (lp1 27 6 (jobOf (fun q : PQ l x.t6 x.s6 => pqT q.n) (fun q => rpM l q.s x.hd q.a []) [2, 5, 6] (fun _ => .ret ()) (pqS l x.hd x.t6 x.s6) x.q) (lp1 27 12 (jobOf (fun q : CQ l x.t8 x.s8 => cqT q.n) (fun q => rpM l q.s x.hd x.t6 q.a) [3, 5, 6] (fun _ => .ret ()) (cqS l x.hd x.t6 x.t8 x.s8) x.r) noLp)) (cs1 27 1 1 (nrC b l) (cs1 27 2 1 (gC l default x.g x.s1) (cs1 27 3 1 (uC l x.s1 x.ep x.s2) (cs1 27 3 3 (uC l x.s2 x.fr x.s3) (cs1 27 4 1 (lC0 l x.s3 4096 x.rc x.s4) (cs1 27 5 1 (cC l x.s4 256 x.n1 x.s5) (cs1 27 11 1 (cC l x.s6 64 x.n2 x.s7) (cs1 27 17 1 (dC l x.s8) (cs1 27 17 5 (pcC false x.p) noCs))))))))) noOp) (sh1 27 2 2 1096 (sh1 27 19 0 779 noSh)))
def vcRp (b : Bool) (l : List Int) (x : RpP l) (p : Part) (e : Int) : Prop :=
  ((b = b ∧ List.length l = List.length l ∧ contLe (List.length l) (1 : Nat) (cellsOf' encB l) (cellsOf' encB l)) ∧ True) ∧ True ∧ LOk l ∧ (((0 : Nat) = (0 : Nat) ∧ (0 : Nat) = (0 : Nat)) ∧ True) ∧ (((true = true ∧ List.length l = List.length l ∧ contLe (List.length l) (1 : Nat) (cellsOf' encB l) (cellsOf' encB l)) ∧ (0 : Int) = (0 : Int) ∧ (false = false ∧ true = true ∧ (2 : Nat) ≤ (2 : Nat) ∧ cellLe (2 : Nat) (Ax.get [AV.y (Value.int IntKind.i64 (0 : Int)), AV.ifc (31 : Nat) (AV.y (Value.int IntKind.i64 (0 : Int)))]) (Ax.get [AV.y (Value.int IntKind.i64 (0 : Int)), AV.ifc (31 : Nat) (AV.y (Value.int IntKind.i64 (0 : Int)))])) ∧ True) ∧ True) ∧ ROk l (@default RS instInhabitedRS) ∧ (x.g, x.s1) = rngS l (@default RS instInhabitedRS) ∧ (((0 : Nat) = (0 : Nat) ∧ (0 : Nat) = (0 : Nat)) ∧ True) ∧ ((rmLe l x.s1 x.s1) ∧ True) ∧ ROk l x.s1 ∧ (x.ep, x.s2) = uintS l x.s1 ∧ (((0 : Nat) = (0 : Nat) ∧ (0 : Nat) = (0 : Nat)) ∧ True) ∧ ((rmLe l x.s2 x.s2) ∧ True) ∧ ROk l x.s2 ∧ (x.fr, x.s3) = uintS l x.s2 ∧ (((0 : Nat) = (0 : Nat) ∧ (0 : Nat) = (0 : Nat)) ∧ (4096 : Int) = (4096 : Int) ∧ True) ∧ ((rmLe l x.s3 x.s3) ∧ True) ∧ (ROk l x.s3 ∧ I64 (4096 : Int) ∧ (4096 : Int) ≤ (4096 : Int)) ∧ (x.rc, x.s4) = listS l x.s3 (4096 : Int) ∧ (((0 : Nat) = (0 : Nat) ∧ (0 : Nat) = (0 : Nat)) ∧ (256 : Int) = (256 : Int) ∧ True) ∧ ((rmLe l x.s4 x.s4) ∧ True) ∧ (ROk l x.s4 ∧ I64 (256 : Int)) ∧ (x.n1, x.s5) = countS l x.s4 (256 : Int) ∧ ((((0 : Nat) = (0 : Nat) ∧ (0 : Nat) = (0 : Nat)) ∧ ((0 : Nat) = (0 : Nat) ∧ (0 : Nat) = (0 : Nat)) ∧ ((0 : Nat) = (0 : Nat) ∧ (0 : Nat) = (0 : Nat)) ∧ x.n1 = (↑x.q.n : Int) ∧ True) ∧ (({ data := #[] : ByteArray } = ByteArray.empty ∧ { data := #[] : ByteArray } = ByteArray.empty ∧ (0 : Int) = (0 : Int) ∧ (0 : Int) = (0 : Int) ∧ True ∧ True ∧ True ∧ True) ∧ (rmLe l x.s5 x.q.s) ∧ ((0 : Nat) = List.length x.q.a ∧ contLe (0 : Nat) (4 : Nat) (fun (x x_1 : Nat) => AV.junk) (cellsOf' P.encP x.q.a)) ∧ ((0 : Nat) = (0 : Nat) ∧ contLe (0 : Nat) (2 : Nat) (fun (x x_1 : Nat) => AV.junk) (cellsOf' encC [])) ∧ (x.g.lo = x.g.lo ∧ x.g.hi = x.g.hi ∧ x.ep = x.ep ∧ x.fr = x.fr ∧ (false = false ∧ List.length x.rc = List.length x.rc ∧ contLe (List.length x.rc) (5 : Nat) (cellsOf' encR x.rc) (cellsOf' encR x.rc)) ∧ ((0 : Nat) = (0 : Nat) ∧ (0 : Nat) = List.length x.q.a) ∧ ((0 : Nat) = (0 : Nat) ∧ (0 : Nat) = (0 : Nat)) ∧ True) ∧ True) ∧ true = true) ∧ LoopOk Tryz.prog (27 : Nat) (6 : Nat) (loopAt Tryz.prog (27 : Nat) (6 : Nat)) { t := pqT x.q.n, m := rpM l x.q.s (RpP.hd x) x.q.a [], mv := [] : St } (T.map (lout [(2 : Nat), (5 : Nat), (6 : Nat)] (pqS l (RpP.hd x) x.t6 x.s6)) ((fun (x : PQ l x.t6 x.s6) => T.ret ()) x.q)) ∧ (((0 : Nat) = (0 : Nat) ∧ (0 : Nat) = (0 : Nat)) ∧ (64 : Int) = (64 : Int) ∧ True) ∧ ((rmLe l x.s6 x.s6) ∧ True) ∧ (ROk l x.s6 ∧ I64 (64 : Int)) ∧ (x.n2, x.s7) = countS l x.s6 (64 : Int) ∧ ((((0 : Nat) = (0 : Nat) ∧ (0 : Nat) = (0 : Nat)) ∧ ((0 : Nat) = (0 : Nat) ∧ (0 : Nat) = (0 : Nat)) ∧ ((0 : Nat) = (0 : Nat) ∧ (0 : Nat) = (0 : Nat)) ∧ x.n2 = (↑x.r.n : Int) ∧ True) ∧ ((ByteArray.empty = ByteArray.empty ∧ ByteArray.empty = ByteArray.empty ∧ (0 : Int) = (0 : Int) ∧ (0 : Int) = (0 : Int) ∧ True ∧ True ∧ True ∧ True) ∧ (rmLe l x.s7 x.r.s) ∧ (List.length x.t6 = List.length x.t6 ∧ contLe (List.length x.t6) (4 : Nat) (cellsOf' P.encP x.t6) (cellsOf' P.encP x.t6)) ∧ ((0 : Nat) = List.length x.r.a ∧ contLe (0 : Nat) (2 : Nat) (cellsOf' encC []) (cellsOf' encC x.r.a)) ∧ (x.g.lo = x.g.lo ∧ x.g.hi = x.g.hi ∧ x.ep = x.ep ∧ x.fr = x.fr ∧ (false = false ∧ List.length x.rc = List.length x.rc ∧ contLe (List.length x.rc) (5 : Nat) (cellsOf' encR x.rc) (cellsOf' encR x.rc)) ∧ ((0 : Nat) = (0 : Nat) ∧ List.length x.t6 = List.length x.t6) ∧ ((0 : Nat) = (0 : Nat) ∧ (0 : Nat) = List.length x.r.a) ∧ True) ∧ True) ∧ true = true) ∧ LoopOk Tryz.prog (27 : Nat) (12 : Nat) (loopAt Tryz.prog (27 : Nat) (12 : Nat)) { t := cqT x.r.n, m := rpM l x.r.s (RpP.hd x) x.t6 x.r.a, mv := [] : St } (T.map (lout [(3 : Nat), (5 : Nat), (6 : Nat)] (cqS l (RpP.hd x) x.t6 x.t8 x.s8)) ((fun (x : CQ l x.t8 x.s8) => T.ret ()) x.r)) ∧ (((0 : Nat) = (0 : Nat) ∧ (0 : Nat) = (0 : Nat)) ∧ True) ∧ ((rmLe l x.s8 x.s8) ∧ True) ∧ ROk l x.s8 ∧ ((doneE l x.s8 != (0 : Int)) = true → (({ data := #[] : ByteArray } = p.rng.lo ∧ { data := #[] : ByteArray } = p.rng.hi ∧ (0 : Int) = p.epoch ∧ (0 : Int) = p.frozen ∧ List.length p.recs = (0 : Nat) ∧ List.length p.prods = (0 : Nat) ∧ List.length p.cons = (0 : Nat) ∧ True) ∧ (165 : Int) = e ∧ True) ∧ True) ∧ ((doneE l x.s8 != (0 : Int)) = false → ((x.g.lo = x.g.lo ∧ x.g.hi = x.g.hi ∧ x.ep = x.ep ∧ x.fr = x.fr ∧ (false = false ∧ List.length x.rc = List.length x.rc ∧ contLe (List.length x.rc) (5 : Nat) (cellsOf' encR x.rc) (cellsOf' encR x.rc)) ∧ (false = false ∧ List.length x.t6 = List.length x.t6 ∧ contLe (List.length x.t6) (4 : Nat) (Ax.rowAt (0 : Nat) (cellsOf' P.encP x.t6)) (cellsOf' P.encP x.t6)) ∧ (false = false ∧ List.length x.t8 = List.length x.t8 ∧ contLe (List.length x.t8) (2 : Nat) (Ax.rowAt (0 : Nat) (cellsOf' encC x.t8)) (cellsOf' encC x.t8)) ∧ True) ∧ True) ∧ True ∧ PartIn (RpP.p x) ∧ (partOk (RpP.p x) = true → true = true ∧ True ∧ (∀ (k : Nat), k < List.length x.t6 → ∀ (j : Nat), j < (4 : Nat) → tagT (cellsOf' P.encP x.t6 k j) = true) ∧ (∀ (k : Nat), k < List.length x.t8 → ∀ (j : Nat), j < (2 : Nat) → tagT (cellsOf' encC x.t8 k j) = true) ∧ ((x.g.lo = p.rng.lo ∧ x.g.hi = p.rng.hi ∧ x.ep = p.epoch ∧ x.fr = p.frozen ∧ (false = false ∧ List.length x.rc = List.length p.recs ∧ contLe (List.length x.rc) (5 : Nat) (cellsOf' encR x.rc) (cellsOf' encR p.recs)) ∧ (true = true ∧ List.length x.t6 = List.length p.prods ∧ contLe (List.length x.t6) (4 : Nat) (Ax.rowAt (0 : Nat) (cellsOf' P.encP x.t6)) (cellsOf' P.encP p.prods)) ∧ (true = true ∧ List.length x.t8 = List.length p.cons ∧ contLe (List.length x.t8) (2 : Nat) (Ax.rowAt (0 : Nat) (cellsOf' encC x.t8)) (cellsOf' encC p.cons)) ∧ True) ∧ (0 : Int) = e ∧ True) ∧ True) ∧ (partOk (RpP.p x) = false → true = true ∧ True ∧ (({ data := #[] : ByteArray } = p.rng.lo ∧ { data := #[] : ByteArray } = p.rng.hi ∧ (0 : Int) = p.epoch ∧ (0 : Int) = p.frozen ∧ List.length p.recs = (0 : Nat) ∧ List.length p.prods = (0 : Nat) ∧ List.length p.cons = (0 : Nat) ∧ True) ∧ (165 : Int) = e ∧ True) ∧ True))
theorem vcRp_eq (b : Bool) (l : List Int) (x : RpP l) (p : Part) (e : Int) : (ctrVC Tryz.prog (rpH b l x) 27 [encBs b l] [] (rpR p e)) = vcRp b l x p e := by kernel_rfl
end Go.Proofs.YtnbhdjadlbhknaaGreatDoor.J

namespace Go.Proofs.YtnbhdjadlbhknaaGreatDoor.J
open Go.Ax
set_option maxRecDepth 1000000
theorem boolS_ok {l : List Int} {s : RS} (h : ROk l s) : ROk l (boolS l s).2 := by
  unfold boolS
  split
  · exact h
  · split
    · exact failS_ok h (by decide) h.at_
    · split
      · exact failS_ok h (by decide) h.at_
      · have := h.at_
        exact ⟨h.n, by show s.at_ + 1 ≤ l.length; omega, h.b, h.bad⟩
theorem recsN_ok (l : List Int) : ∀ n s a, ROk l s → ROk l (recsN l n s a).2
  | 0, s, a, h => h
  | n + 1, s, a, h => by
    unfold recsN
    split
    · exact h
    · exact recsN_ok l n _ _ (rec_ok h)
theorem listS_ok {l : List Int} {s : RS} {most : Int} (h : ROk l s) : ROk l (listS l s most).2 := recsN_ok l _ _ _ (countS_ok h).1
theorem i64_64 : I64 64 := ⟨by decide, by decide⟩
theorem i64_4096 : I64 4096 := ⟨by decide, by decide⟩
end Go.Proofs.YtnbhdjadlbhknaaGreatDoor.J

namespace Go.Proofs.YtnbhdjadlbhknaaGreatDoor.J
open Go.Ax
set_option maxRecDepth 1000000
theorem prodS_ok {l : List Int} {s : RS} (h : ROk l s) : ROk l (prodS l s).2 := (uintS_ok (boolS_ok (uintS_ok (uintS_ok h).1).1)).1
theorem conS_ok {l : List Int} {s : RS} (h : ROk l s) : ROk l (conS l s).2 := (uintS_ok (str_ok h rfl)).1
theorem many_ok {α : Type} {l : List Int} {f : RS → α × RS} (hf : ∀ s, ROk l s → ROk l (f s).2) : ∀ n s a, ROk l s → ROk l (manyS f n s a).2
  | 0, s, a, h => h
  | n + 1, s, a, h => by
    unfold manyS
    exact many_ok hf n _ _ (hf s h)
theorem many_len {α : Type} {f : RS → α × RS} : ∀ n s a, (manyS f n s a).1.length = a.length + n
  | 0, s, a => rfl
  | n + 1, s, a => by
    unfold manyS
    rw [many_len n]
    simp
    omega
theorem many_all {α : Type} {l : List Int} {f : RS → α × RS} {Q : α → Prop} (hf : ∀ s, ROk l s → ROk l (f s).2 ∧ Q (f s).1) : ∀ n s a, ROk l s → (∀ x ∈ a, Q x) → ∀ x ∈ (manyS f n s a).1, Q x
  | 0, s, a, h, ha => ha
  | n + 1, s, a, h, ha => by
    unfold manyS
    refine many_all hf n _ _ (hf s h).1 fun x hx => ?_
    rcases List.mem_append.1 hx with hx | hx
    · exact ha x hx
    · obtain rfl := List.mem_singleton.1 hx
      exact (hf s h).2
theorem count_le {l : List Int} {s : RS} {most : Int} (h : ROk l s) : (countS l s most).1 ≤ max most 0 ∧ 0 ≤ (countS l s most).1 := by
  have h2 := (countS_ok (most := most) h).2.1.lo
  refine ⟨?_, h2⟩
  unfold countS
  split
  · simp; omega
  · split
    · simp; omega
    · split
      · simp; omega
      · rename_i a b c
        have : ¬ (most < 0 ∨ most < (uintS l s).1) := b
        omega
theorem pq_loop (l : List Int) (h : HdP) (t : List P.Producer) (s' : RS) (q : PQ l t s') : LoopOk Tryz.prog 27 6 (loopAt Tryz.prog 27 6) ⟨pqT q.n, rpM l q.s h q.a [], []⟩ (T.map (lout [2, 5, 6] (pqS l h t s')) (.ret ())) := by
  refine loop_vcH (P := Tryz.prog) (f := 27) (k := 6) (ι := PQ l t s') (μ := fun q => q.n) (ht := fun q => pqH l q.s (uintS l q.s).1 (uintS l q.s).2 (uintS l (uintS l q.s).2).1 (uintS l (uintS l q.s).2).2 (boolS l (uintS l (uintS l q.s).2).2).1 (boolS l (uintS l (uintS l q.s).2).2).2 (uintS l (boolS l (uintS l (uintS l q.s).2).2).2).1 (uintS l (boolS l (uintS l (uintS l q.s).2).2).2).2) (stT := fun q => pqT q.n) (stM := fun q => rpM l q.s h q.a []) (X := [2, 5, 6]) (o := fun _ => .ret ()) (S := pqS l h t s') Tryz.mixed (fun _ => rfl) (fun q => ?_) q
  rw [vcPq_eq]
  unfold vcPq
  obtain ⟨n, s, a, e, hs, m⟩ := q
  simp only
  cases n with
  | zero =>
    have e1 : a = t := congrArg Prod.fst e
    have e2 : s = s' := congrArg Prod.snd e
    subst e1 e2
    simp
  | succ n =>
    have hd : decide ((0 : Int) < ((n + 1 : Nat) : Int)) = true := by simp only [decide_eq_true_eq]; omega
    have k1 := (uintS_ok hs).1
    have k2 := (uintS_ok k1).1
    have k3 := boolS_ok k2
    have k4 := (uintS_ok k3).1
    have e1 : manyS (prodS l) n (prodS l s).2 (a ++ [(prodS l s).1]) = (t, s') := e
    have w : IntKind.wrap IntKind.i64 (((n + 1 : Nat) : Int) - 1) = (n : Int) := by rw [wrap_i64 (by omega) (by omega)]; omega
    have ha := app1_le (enc := P.encP) (l := a) (n := a.length) (sz := 4) (x := (prodS l s).1) (cs := P.encP (prodS l s).1) rfl (fun j hj => le0_refl _)
    simp only [hd, w]
    simp [hs, k1, k2, k3]
    refine ⟨by omega, ⟨n, (prodS l s).2, a ++ [(prodS l s).1], e1, k4, by simp; omega⟩, by show n < n + 1; omega, rfl, ?_⟩
    simp [prodS]
    exact ha
theorem cq_loop (l : List Int) (h : HdP) (p : List P.Producer) (t : List Con) (s' : RS) (q : CQ l t s') : LoopOk Tryz.prog 27 12 (loopAt Tryz.prog 27 12) ⟨cqT q.n, rpM l q.s h p q.a, []⟩ (T.map (lout [3, 5, 6] (cqS l h p t s')) (.ret ())) := by
  refine loop_vcH (P := Tryz.prog) (f := 27) (k := 12) (ι := CQ l t s') (μ := fun q => q.n) (ht := fun q => cqH l q.s (strS l q.s 32).1 (strS l q.s 32).2 (uintS l (strS l q.s 32).2).1 (uintS l (strS l q.s 32).2).2) (stT := fun q => cqT q.n) (stM := fun q => rpM l q.s h p q.a) (X := [3, 5, 6]) (o := fun _ => .ret ()) (S := cqS l h p t s') Tryz.mixed (fun _ => rfl) (fun q => ?_) q
  rw [vcCq_eq]
  unfold vcCq
  obtain ⟨n, s, a, e, hs, m⟩ := q
  simp only
  cases n with
  | zero =>
    have e1 : a = t := congrArg Prod.fst e
    have e2 : s = s' := congrArg Prod.snd e
    subst e1 e2
    simp
  | succ n =>
    have hd : decide ((0 : Int) < ((n + 1 : Nat) : Int)) = true := by simp only [decide_eq_true_eq]; omega
    have k1 : ROk l (strS l s 32).2 := str_ok hs rfl
    have k2 := (uintS_ok k1).1
    have e1 : manyS (conS l) n (conS l s).2 (a ++ [(conS l s).1]) = (t, s') := e
    have w : IntKind.wrap IntKind.i64 (((n + 1 : Nat) : Int) - 1) = (n : Int) := by rw [wrap_i64 (by omega) (by omega)]; omega
    have ha := app1_le (enc := encC) (l := a) (n := a.length) (sz := 2) (x := (conS l s).1) (cs := encC (conS l s).1) rfl (fun j hj => le0_refl _)
    have z := i64_32
    simp only [hd, w]
    simp [hs, k1, z]
    refine ⟨⟨rfl, rfl⟩, by omega, ⟨n, (conS l s).2, a ++ [(conS l s).1], e1, k2, by simp; omega⟩, by show n < n + 1; omega, rfl, ?_⟩
    simp [conS]
    exact ha
end Go.Proofs.YtnbhdjadlbhknaaGreatDoor.J

namespace Go.Proofs.YtnbhdjadlbhknaaGreatDoor.J
open Go.Ax
set_option maxRecDepth 1000000
theorem recsN_len (l : List Int) : ∀ n s a, (recsN l n s a).1.length ≤ a.length + n
  | 0, s, a => Nat.le_refl _
  | n + 1, s, a => by
    unfold recsN
    split
    · simp
    · have := recsN_len l n (recS l s).2 (a ++ [(recS l s).1])
      rw [List.length_append] at this
      simp at this
      omega
theorem tagPs (l : List P.Producer) : ∀ k, k < l.length → ∀ j, j < 4 → tagT (cellsOf' P.encP l k j) = true := by
  intro k hk j hj
  have : j = 0 ∨ j = 1 ∨ j = 2 ∨ j = 3 := by omega
  rcases this with rfl | rfl | rfl | rfl <;> rfl
theorem tagCs (l : List Con) : ∀ k, k < l.length → ∀ j, j < 2 → tagT (cellsOf' encC l k j) = true := by
  intro k hk j hj
  have : j = 0 ∨ j = 1 := by omega
  rcases this with rfl | rfl <;> rfl
theorem rp_m (b : Bool) (l : List Int) (h : RlOk l) : (rpR (rpS l).1 (rpS l).2).Sat (ACall' Tryz.prog 27 [encBs b l] []) := by
  have hl := h.n
  have k0 := rok0 h.n h.b
  obtain ⟨g, s1, e1⟩ : ∃ v t, (v, t) = rngS l default := ⟨_, _, rfl⟩
  have k1 : ROk l s1 := by have := rng_ok k0; rw [← e1] at this; exact this
  obtain ⟨ep, s2, e2⟩ : ∃ v t, (v, t) = uintS l s1 := ⟨_, _, rfl⟩
  have k2 := (rd_ok k1 e2).1
  obtain ⟨fr, s3, e3⟩ : ∃ v t, (v, t) = uintS l s2 := ⟨_, _, rfl⟩
  have k3 := (rd_ok k2 e3).1
  obtain ⟨rc, s4, e4⟩ : ∃ v t, (v, t) = listS l s3 4096 := ⟨_, _, rfl⟩
  have k4 : ROk l s4 := by have := listS_ok (most := 4096) k3; rw [← e4] at this; exact this
  obtain ⟨n1, s5, e5⟩ : ∃ v t, (v, t) = countS l s4 256 := ⟨_, _, rfl⟩
  have k5 : ROk l s5 := by have := (countS_ok (most := 256) k4).1; rw [← e5] at this; exact this
  have c5 := count_le (most := 256) k4
  rw [← e5] at c5
  obtain ⟨t6, s6, e6⟩ : ∃ v t, (v, t) = manyS (prodS l) n1.toNat s5 [] := ⟨_, _, rfl⟩
  have k6 : ROk l s6 := by have := many_ok (f := prodS l) (fun s h => prodS_ok h) n1.toNat s5 [] k5; rw [← e6] at this; exact this
  obtain ⟨n2, s7, e7⟩ : ∃ v t, (v, t) = countS l s6 64 := ⟨_, _, rfl⟩
  have k7 : ROk l s7 := by have := (countS_ok (most := 64) k6).1; rw [← e7] at this; exact this
  have c7 := count_le (most := 64) k6
  rw [← e7] at c7
  obtain ⟨t8, s8, e8⟩ : ∃ v t, (v, t) = manyS (conS l) n2.toNat s7 [] := ⟨_, _, rfl⟩
  have k8 : ROk l s8 := by have := many_ok (f := conS l) (fun s h => conS_ok h) n2.toNat s7 [] k7; rw [← e8] at this; exact this
  simp only at c5 c7
  have hr : rpRaw l = (⟨g, ep, fr, rc, t6, t8⟩, s8) := by
    unfold rpRaw hdS prodsS consS
    simp only [← e1, ← e2, ← e3, ← e4, ← e5, ← e6, ← e7, ← e8]
  have l6 : t6.length = n1.toNat := by have := many_len (f := prodS l) n1.toNat s5 []; rw [← e6] at this; simpa using this
  have l8 : t8.length = n2.toNat := by have := many_len (f := conS l) n2.toNat s7 []; rw [← e8] at this; simpa using this
  have l4 : rc.length ≤ 4096 := by
    have c4 := count_le (most := 4096) k3
    have := recsN_len l (countS l s3 4096).1.toNat (countS l s3 4096).2 []
    have e : (rc, s4) = recsN l (countS l s3 4096).1.toNat (countS l s3 4096).2 [] := e4
    rw [← e] at this
    simp at this
    omega
  have po : ∀ k, k < t6.length → 0 ≤ (t6.getD k default).offset := by
    have := many_all (Q := fun x : P.Producer => 0 ≤ x.offset) (f := prodS l) (fun s h => ⟨prodS_ok h, (uintS_ok (boolS_ok (uintS_ok (uintS_ok h).1).1)).2.lo⟩) n1.toNat s5 [] k5 (fun x hx => by cases hx)
    rw [← e6] at this
    intro k hk
    have hm : t6.getD k default ∈ t6 := by
      simp only [List.getD, List.getElem?_eq_getElem hk, Option.getD_some]
      exact List.getElem_mem hk
    exact this _ hm
  have hpi : PartIn ⟨g, ep, fr, rc, t6, t8⟩ := ⟨by show rc.length ≤ _; omega, by show t6.length ≤ _; omega, by show t8.length ≤ _; omega, po⟩
  have q1 : ∃ q : PQ l t6 s6, q.n = n1.toNat ∧ q.s = s5 ∧ q.a = [] := ⟨⟨n1.toNat, s5, [], e6.symm, k5, by simp; omega⟩, rfl, rfl, rfl⟩
  obtain ⟨q, q1, q2, q3⟩ := q1
  have q4 : ∃ q : CQ l t8 s8, q.n = n2.toNat ∧ q.s = s7 ∧ q.a = [] := ⟨⟨n2.toNat, s7, [], e8.symm, k7, by simp; omega⟩, rfl, rfl, rfl⟩
  obtain ⟨r, r1, r2, r3⟩ := q4
  have lp := pq_loop l ⟨g, ep, fr, rc⟩ t6 s6 q
  have lq := cq_loop l ⟨g, ep, fr, rc⟩ t6 t8 s8 r
  refine ctr_vc (ht := rpH b l ⟨g, s1, ep, s2, fr, s3, rc, s4, n1, s5, t6, s6, n2, s7, t8, s8, q, r⟩) Tryz.mixed rfl ?_
  rw [vcRp_eq b l ⟨g, s1, ep, s2, fr, s3, rc, s4, n1, s5, t6, s6, n2, s7, t8, s8, q, r⟩ (rpS l).1 (rpS l).2]
  unfold vcRp rpS
  rw [hr]
  have z64 := i64_64
  have z256 := i64_256
  have z4096 := i64_4096
  have z0 : (default : Part) = ⟨⟨ByteArray.empty, ByteArray.empty⟩, 0, 0, [], [], []⟩ := rfl
  have z1 : ByteArray.empty = (⟨#[]⟩ : ByteArray) := rfl
  have w1 : ((n1.toNat : Nat) : Int) = n1 := by omega
  have w2 : ((n2.toNat : Nat) : Int) = n2 := by omega
  have hr6 : contLe t6.length 4 (Ax.rowAt 0 (cellsOf' P.encP t6)) (cellsOf' P.encP t6) := fun k hk j hj => le0_refl _
  have hr8 : contLe t8.length 2 (Ax.rowAt 0 (cellsOf' encC t8)) (cellsOf' encC t8) := fun k hk j hj => le0_refl _
  have tp := tagPs t6
  have tc := tagCs t8
  rw [q1, q2, q3] at lp
  rw [r1, r2, r3] at lq
  simp only [q1, q2, q3, r1, r2, r3, w1, w2]
  have f1 : rngS l default = (g, s1) := e1.symm
  have f2 : uintS l s1 = (ep, s2) := e2.symm
  by_cases hd : doneE l s8 = 0
  · cases hw : partOk (⟨g, ep, fr, rc, t6, t8⟩ : Part)
    · simp [hl, k0, k1, k2, k3, k4, k5, k6, k7, k8, z64, z256, z4096, hd, hw, hpi, z0, z1, hr6, hr8, e1, e2, e3, e4, e5, e7]
      repeat' with_reducible apply And.intro
      all_goals first | assumption | skip
    · simp [hl, k0, k1, k2, k3, k4, k5, k6, k7, k8, z64, z256, z4096, hd, hw, hpi, z0, z1, hr6, hr8, e1, e2, e3, e4, e5, e7]
      repeat' with_reducible apply And.intro
      all_goals first | assumption | skip
  · simp [hl, k0, k1, k2, k3, k4, k5, k6, k7, k8, z64, z256, z4096, hd, hpi, z0, z1, hr6, hr8, e1, e2, e3, e4, e5, e7]
    repeat' with_reducible apply And.intro
    all_goals first | assumption | skip
def rpR0 (p : Part) (e : Int) : T An := .ret (.tup [.agg (encPt false p), .y (.int .i64 e)], [], [])
theorem rel_ptM {H : HH} (hH : (H true).le (H false)) {p : Part} {e : Int} {E : Env} {v : Value} (h : Rel (.tup [.agg (encPtM p), .y (.int .i64 e)]) H E v) : Rel (.tup [.agg (encPt false p), .y (.int .i64 e)]) H E v := by
  obtain ⟨vs, hu, a, r, hr, h1, h2⟩ := h
  obtain ⟨us, hu2, h3⟩ := h1
  exact ⟨vs, hu, a, r, hr, ⟨us, hu2, relL_dem hH h3⟩, h2⟩
theorem rp_c (b : Bool) (l : List Int) (h : RlOk l) : (rpR0 (rpS l).1 (rpS l).2).Sat (ACall' Tryz.prog 27 [encBs b l] []) := by
  have h1 : ACall' Tryz.prog 27 [encBs b l] [] (.tup [.agg (encPtM (rpS l).1), .y (.int .i64 (rpS l).2)], [], []) := of_retJ (rp_m b l h)
  have h2 : ACall' Tryz.prog 27 [encBs b l] [] (.tup [.agg (encPt false (rpS l).1), .y (.int .i64 (rpS l).2)], [], []) := acall_res (fun H E v hH hr => rel_ptM hH hr) h1
  exact T.Sat.ret h2
noncomputable def rpC (b : Bool) (l : List Int) (p : Part) (e : Int) : Ctr Tryz.prog := ⟨27, [encBs b l], [], .need (RlOk l) (.need ((p, e) = rpS l) (rpR0 p e)), T.Sat.need fun h => T.Sat.need fun q => by
  have e1 : p = (rpS l).1 := congrArg Prod.fst q
  have e2 : e = (rpS l).2 := congrArg Prod.snd q
  rw [e1, e2]
  exact rp_c b l h⟩
end Go.Proofs.YtnbhdjadlbhknaaGreatDoor.J

namespace Go.Proofs.YtnbhdjadlbhknaaGreatDoor.J
open Go.Ax
set_option maxRecDepth 1000000
theorem powS {i : Nat} (h : i ≤ 8) : (2 : Int) ^ (64 - 7 * i) = 128 * 2 ^ (64 - 7 * (i + 1)) := by
  rw [show 64 - 7 * i = 7 + (64 - 7 * (i + 1)) by omega, Int.pow_add]
  rfl
theorem powN (i : Nat) : (2 : Int) ^ (7 * (i + 1)) = 128 * 2 ^ (7 * i) := by
  rw [show 7 * (i + 1) = 7 + 7 * i by omega, Int.pow_add]
  rfl
theorem powP (n : Nat) : (0 : Int) < 2 ^ n := Int.pow_pos (by decide)
theorem div_sum (a v p : Int) : a + v % 128 * p + v / 128 * (128 * p) = a + v * p := by
  have h : v = v % 128 + 128 * (v / 128) := by omega
  have e1 : v / 128 * (128 * p) = (128 * (v / 128)) * p := by rw [← Int.mul_assoc, Int.mul_comm (v / 128) 128]
  rw [e1, Int.add_assoc, ← Int.add_mul]
  congr 2
  omega
theorem go_fwd : ∀ (f i : Nat) (v acc : Int) (r : List Int), i ≤ 9 → 0 ≤ v → (0 < i → 0 < v) → v < 2 ^ (64 - 7 * i) → v < 128 ^ (f + 1) → uGo (vint f v ++ r) i acc = (0, acc + v * 2 ^ (7 * i), i + (vint f v).length) := by
  have last : ∀ (f i : Nat) (v acc : Int) (r : List Int), i ≤ 9 → 0 ≤ v → (0 < i → 0 < v) → v < 2 ^ (64 - 7 * i) → v < 128 → uGo (vint f v ++ r) i acc = (0, acc + v * 2 ^ (7 * i), i + (vint f v).length) := by
    intro f i v acc r hi h0 hp hb hv
    rw [vint_end hv]
    show uGo (v :: r) i acc = _
    unfold uGo
    have h9 : ¬ (i = 9 ∧ v ≠ 1) := by
      rintro ⟨rfl, h⟩
      have e : (2 : Int) ^ (64 - 7 * 9) = 2 := by decide
      rw [e] at hb
      have := hp (by decide)
      omega
    have hz : ¬ (v = 0 ∧ 0 < i) := by
      rintro ⟨rfl, h⟩
      have := hp h
      omega
    rw [if_neg h9, if_neg (by omega), if_neg hz]
    have e : v % 128 = v := by omega
    rw [e]
    rfl
  intro f
  induction f with
  | zero => intro i v acc r hi h0 hp hb hv; exact last 0 i v acc r hi h0 hp hb (by simpa using hv)
  | succ f ih =>
    intro i v acc r hi h0 hp hb hv
    by_cases h : v < 128
    · exact last (f + 1) i v acc r hi h0 hp hb h
    · have hi8 : i ≤ 8 := by
        by_cases h9 : i = 9
        · subst h9
          have e : (2 : Int) ^ (64 - 7 * 9) = 2 := by decide
          rw [e] at hb
          omega
        · omega
      rw [vint_step (by omega)]
      show uGo ((v % 128 + 128) :: (vint f (v / 128) ++ r)) i acc = _
      rw [uGo]
      rw [if_neg (by rintro ⟨h9, _⟩; omega), if_pos (by omega)]
      have e : (v % 128 + 128) % 128 = v % 128 := by omega
      rw [e]
      have hb2 : v / 128 < 2 ^ (64 - 7 * (i + 1)) := by
        rw [powS hi8] at hb
        omega
      have hv2 : v / 128 < 128 ^ (f + 1) := by
        have : (128 : Int) ^ (f + 1 + 1) = 128 ^ (f + 1) * 128 := Int.pow_succ 128 (f + 1)
        rw [this] at hv
        omega
      rw [ih (i + 1) (v / 128) (acc + v % 128 * 2 ^ (7 * i)) r (by omega) (by omega) (fun _ => by omega) hb2 hv2]
      rw [powN, div_sum]
      simp
      omega
theorem u_fwd {v : Int} (h : U64 v) (r : List Int) : uGo (uintB v ++ r) 0 0 = (0, v, (uintB v).length) := by
  have := go_fwd 10 0 v 0 r (by decide) h.lo (fun h => absurd h (by decide)) (by have := h.hi; exact this) (by
    have e : (128 : Int) ^ (10 + 1) = 151115727451828646838272 := by decide
    have := h.hi
    omega)
  unfold uintB
  simpa using this
theorem go_bwd : ∀ (bs : List Int) (i : Nat) (acc w : Int) (n : Nat), (∀ x ∈ bs, 0 ≤ x ∧ x < 256) → i ≤ 9 → uGo bs i acc = (0, w, n) →
    ∃ v r, bs = vint (10 - i) v ++ r ∧ 0 ≤ v ∧ (0 < i → 0 < v) ∧ v < 2 ^ (64 - 7 * i) ∧ w = acc + v * 2 ^ (7 * i) ∧ n = i + (vint (10 - i) v).length
  | [], i, acc, w, n, _, _, h => by simp [uGo] at h
  | c :: bs, i, acc, w, n, hb, hi, h => by
    obtain ⟨c0, c1⟩ := hb c (by simp)
    rw [uGo] at h
    by_cases hA : i = 9 ∧ c ≠ 1
    · rw [if_pos hA] at h
      simp at h
    · rw [if_neg hA] at h
      have h9 : i = 9 → c = 1 := fun h => by
        by_cases hc : c = 1
        · exact hc
        · exact absurd ⟨h, hc⟩ hA
      by_cases h2 : 128 ≤ c
      · rw [if_pos h2] at h
        have hi8 : i ≤ 8 := by
          by_cases h : i = 9
          · have := h9 h; omega
          · omega
        obtain ⟨v, r, q1, q2, q3, q4, q5, q6⟩ := go_bwd bs (i + 1) _ w n (fun x hx => hb x (by simp [hx])) (by omega) h
        have hv := q3 (by omega)
        have e1 : (c % 128 + 128 * v) % 128 + 128 = c := by omega
        have e2 : (c % 128 + 128 * v) / 128 = v := by omega
        have e3 : 10 - i = (10 - (i + 1)) + 1 := by omega
        refine ⟨c % 128 + 128 * v, r, ?_, by omega, fun _ => by omega, ?_, ?_, ?_⟩
        · rw [e3, vint_step (by omega), e1, e2, List.cons_append, ← q1]
        · rw [powS hi8]
          omega
        · rw [q5, powN]
          have e4 : v * (128 * 2 ^ (7 * i)) = (128 * v) * 2 ^ (7 * i) := by rw [← Int.mul_assoc, Int.mul_comm v 128]
          rw [e4, Int.add_assoc, ← Int.add_mul]
        · rw [q6, e3, vint_step (by omega), e2]
          simp
          omega
      · rw [if_neg h2] at h
        by_cases h3 : c = 0 ∧ 0 < i
        · rw [if_pos h3] at h
          simp at h
        · rw [if_neg h3] at h
          simp at h
          obtain ⟨q1, q2⟩ := h
          refine ⟨c, bs, ?_, c0, fun hh => ?_, ?_, ?_, ?_⟩
          · rw [vint_end (by omega)]
            rfl
          · by_cases hc : c = 0
            · exact absurd ⟨hc, hh⟩ h3
            · omega
          · by_cases h : i = 9
            · have := h9 h
              subst this
              subst h
              decide
            · rw [powS (by omega)]
              have := powP (64 - 7 * (i + 1))
              omega
          · have e : c % 128 = c := by omega
            rw [e] at q1
            exact q1.symm
          · rw [vint_end (by omega), ← q2]
            rfl
theorem u_bwd {bs : List Int} {w : Int} {n : Nat} (hb : ∀ x ∈ bs, 0 ≤ x ∧ x < 256) (h : uGo bs 0 0 = (0, w, n)) : U64 w ∧ n = (uintB w).length ∧ ∃ r, bs = uintB w ++ r := by
  obtain ⟨v, r, q1, q2, _, q4, q5, q6⟩ := go_bwd bs 0 0 w n hb (by decide) h
  have e : w = v := by rw [q5]; simp
  subst e
  exact ⟨⟨q2, by simpa using q4⟩, by rw [q6]; simp [uintB], r, q1⟩
end Go.Proofs.YtnbhdjadlbhknaaGreatDoor.J

namespace Go.Proofs.YtnbhdjadlbhknaaGreatDoor.J
open Go.Ax
set_option maxRecDepth 1000000
structure Cdc {α : Type} (l : List Int) (f : RS → α × RS) (enc : α → List Int) (ok : α → Prop) : Prop where
  fwd : ∀ s x r, ROk l s → s.e = 0 → ok x → l.drop s.at_ = enc x ++ r → f s = (x, ⟨s.at_ + (enc x).length, 0, s.bad⟩)
  bwd : ∀ s, ROk l s → (f s).2.e = 0 → s.e = 0 ∧ ok (f s).1 ∧ (f s).2 = ⟨s.at_ + (enc (f s).1).length, 0, s.bad⟩ ∧ ∃ r, l.drop s.at_ = enc (f s).1 ++ r
  rok : ∀ s, ROk l s → ROk l (f s).2
theorem drop_next {l a r : List Int} {n : Nat} (h : l.drop n = a ++ r) : l.drop (n + a.length) = r := by
  rw [← List.drop_drop, h]
  simp
theorem drop_le {l a r : List Int} {n : Nat} (h : l.drop n = a ++ r) (hn : n ≤ l.length) : n + a.length ≤ l.length := by
  have := congrArg List.length h
  rw [List.length_drop, List.length_append] at this
  omega
theorem Cdc.pair {α β : Type} {l : List Int} {f : RS → α × RS} {g : RS → β × RS} {ea : α → List Int} {eb : β → List Int} {oa : α → Prop} {ob : β → Prop} (hf : Cdc l f ea oa) (hg : Cdc l g eb ob) :
    Cdc l (fun s => (((f s).1, (g (f s).2).1), (g (f s).2).2)) (fun x => ea x.1 ++ eb x.2) (fun x => oa x.1 ∧ ob x.2) where
  fwd := fun s x r h he ho hd => by
    obtain ⟨a, b⟩ := x
    simp only [List.append_assoc] at hd
    have h1 := hf.fwd s a _ h he ho.1 hd
    have h2 := hf.rok s h
    rw [h1] at h2
    have h3 := hg.fwd _ b r h2 rfl ho.2 (drop_next hd)
    rw [h1]
    simp only
    rw [h3]
    simp [Nat.add_assoc]
  bwd := fun s h he => by
    obtain ⟨b1, b2, b3, r, b4⟩ := hg.bwd _ (hf.rok s h) he
    obtain ⟨a1, a2, a3, r1, a4⟩ := hf.bwd s h b1
    refine ⟨a1, ⟨a2, b2⟩, ?_, r, ?_⟩
    · simp only
      rw [b3, a3]
      simp [Nat.add_assoc]
    · simp only
      have h5 := drop_next a4
      have h6 : (f s).2.at_ = s.at_ + (ea (f s).1).length := by rw [a3]
      rw [h6, h5] at b4
      rw [a4, b4]
      simp
  rok := fun s h => hg.rok _ (hf.rok s h)
theorem Cdc.map {α β : Type} {l : List Int} {f : RS → α × RS} {ea : α → List Int} {oa : α → Prop} (hf : Cdc l f ea oa) (φ : α → β) (ψ : β → α) {eb : β → List Int} {ob : β → Prop} (h1 : ∀ x, φ (ψ x) = x) (h2 : ∀ a, oa a → eb (φ a) = ea a ∧ ob (φ a)) (h3 : ∀ x, ob x → oa (ψ x)) :
    Cdc l (fun s => (φ (f s).1, (f s).2)) eb ob where
  fwd := fun s x r h he ho hd => by
    have e := (h2 _ (h3 x ho)).1
    rw [h1] at e
    rw [e] at hd
    have := hf.fwd s (ψ x) r h he (h3 x ho) hd
    simp only [this, h1, e]
  bwd := fun s h he => by
    obtain ⟨a1, a2, a3, r, a4⟩ := hf.bwd s h he
    obtain ⟨e1, e2⟩ := h2 _ a2
    refine ⟨a1, e2, ?_, r, ?_⟩
    · simp only [e1]; exact a3
    · simp only [e1]; exact a4
  rok := fun s h => hf.rok s h
theorem Cdc.whole {α : Type} {l : List Int} {f : RS → α × RS} {enc : α → List Int} {ok : α → Prop} (hf : Cdc l f enc ok) (d : α) : Cdc l (fun s => if (f s).2.e != 0 then (d, (f s).2) else f s) enc ok where
  fwd := fun s x r h he ho hd => by
    have := hf.fwd s x r h he ho hd
    simp only [this]
    rfl
  bwd := fun s h he => by
    by_cases h0 : ((f s).2.e != 0) = true
    · rw [if_pos h0] at he
      have he : (f s).2.e = 0 := he
      simp [he] at h0
    · rw [if_neg h0] at he ⊢
      exact hf.bwd s h he
  rok := fun s h => by
    split
    · exact hf.rok s h
    · exact hf.rok s h
theorem Cdc.of {α : Type} {l : List Int} {f g : RS → α × RS} {enc : α → List Int} {ok : α → Prop} (hf : Cdc l f enc ok) (h : ∀ s, g s = f s) : Cdc l g enc ok := by
  rw [show g = f from funext h]
  exact hf
theorem cdc_uint (l : List Int) : Cdc l (uintS l) uintB U64 where
  fwd := fun s x r h he ho hd => by
    have hu : uRes l s = (0, x, (uintB x).length) := by unfold uRes; rw [hd]; exact u_fwd ho r
    have h0 : (s.e != 0) = false := by simp [he]
    unfold uintS
    simp [h0, hu, he]
  bwd := fun s h he => by
    unfold uintS at he ⊢
    by_cases h0 : (s.e != 0) = true
    · rw [if_pos h0] at he
      have he : s.e = 0 := he
      simp [he] at h0
    · rw [if_neg h0] at he ⊢
      have hs : s.e = 0 := by simpa using h0
      by_cases h1 : (uRes l s).1 = 0
      · rw [if_pos h1] at he ⊢
        obtain ⟨w, n, e⟩ : ∃ w n, uRes l s = (0, w, n) := ⟨(uRes l s).2.1, (uRes l s).2.2, by rw [← h1]⟩
        obtain ⟨q1, q2, r, q3⟩ := u_bwd (fun x hx => h.b.b x (List.mem_of_mem_drop hx)) e
        rw [e]
        exact ⟨hs, q1, by simp [q2, hs], r, q3⟩
      · rw [if_neg h1] at he
        exact absurd he (failS_ne h1)
  rok := fun s h => (uintS_ok h).1
theorem zag_zig {v : Int} : zag (zig v) = v := by unfold zag zig; split <;> split <;> omega
theorem zig_zag {w : Int} (h : 0 ≤ w) : zig (zag w) = w := by unfold zag zig; split <;> split <;> omega
theorem cdc_int (l : List Int) : Cdc l (intS l) intB I64 :=
  (cdc_uint l).map zag zig (fun x => zag_zig) (fun a ha => by
    have h0 := ha.lo
    have h1 := ha.hi
    refine ⟨?_, ?_, ?_⟩
    · unfold intB; rw [zig_zag h0]
    · unfold zag; split <;> omega
    · unfold zag; split <;> omega) (fun x hx => ⟨by unfold zig; have := hx.lo; have := hx.hi; split <;> omega, by unfold zig; have := hx.lo; have := hx.hi; split <;> omega⟩)
theorem cdc_bool (l : List Int) : Cdc l (boolS l) boolB (fun _ => True) where
  fwd := fun s x r h he ho hd => by
    have h0 : (s.e != 0) = false := by simp [he]
    have hlt := drop_le hd h.at_
    have hl1 : (boolB x).length = 1 := rfl
    have hg : l.getD s.at_ 0 = if x then 1 else 0 := by
      have := congrArg (fun z : List Int => z.getD 0 0) hd
      simp [boolB] at this
      simpa using this
    unfold boolS
    rw [h0]
    simp only [hg]
    rw [if_neg (by decide), if_neg (by omega)]
    cases x <;> simp [boolB, he]
  bwd := fun s h he => by
    unfold boolS at he ⊢
    by_cases h0 : (s.e != 0) = true
    · rw [if_pos h0] at he
      have he : s.e = 0 := he
      simp [he] at h0
    · rw [if_neg h0] at he ⊢
      have hs : s.e = 0 := by simpa using h0
      by_cases h1 : s.at_ = l.length
      · rw [if_pos h1] at he
        exact absurd he (failS_ne (by decide))
      · rw [if_neg h1] at he ⊢
        by_cases h2 : 1 < l.getD s.at_ 0
        · rw [if_pos h2] at he
          exact absurd he (failS_ne (by decide))
        · rw [if_neg h2] at he ⊢
          have hat := h.at_
          have hlt : s.at_ < l.length := by omega
          have hm : l.getD s.at_ 0 ∈ l := by
            simp only [List.getD, List.getElem?_eq_getElem hlt, Option.getD_some]
            exact List.getElem_mem hlt
          have hb := h.b.b _ hm
          have hc : l.getD s.at_ 0 = 0 ∨ l.getD s.at_ 0 = 1 := by omega
          refine ⟨hs, trivial, ?_, l.drop (s.at_ + 1), ?_⟩
          · simp [boolB, hs]
          · rw [drop_get l s.at_ hlt]
            rcases hc with hc | hc <;> rw [hc] <;> rfl
  rok := fun s h => boolS_ok h
end Go.Proofs.YtnbhdjadlbhknaaGreatDoor.J

namespace Go.Proofs.YtnbhdjadlbhknaaGreatDoor.J
open Go.Ax
set_option maxRecDepth 1000000
theorem count_good {l : List Int} {s : RS} {most : Int} (he : (countS l s most).2.e = 0) : countS l s most = uintS l s ∧ (uintS l s).2.e = 0 ∧ ¬ (most < 0 ∨ most < (uintS l s).1) ∧ ¬ ((l.length : Int) - (uintS l s).2.at_ < (uintS l s).1) := by
  unfold countS at he ⊢
  by_cases h0 : ((uintS l s).2.e != 0) = true
  · rw [if_pos h0] at he
    have he : (uintS l s).2.e = 0 := he
    simp [he] at h0
  · rw [if_neg h0] at he ⊢
    have hs : (uintS l s).2.e = 0 := by simpa using h0
    by_cases h1 : most < 0 ∨ most < (uintS l s).1
    · rw [if_pos h1] at he
      exact absurd he (failS_ne (by decide))
    · rw [if_neg h1] at he ⊢
      by_cases h2 : (l.length : Int) - (uintS l s).2.at_ < (uintS l s).1
      · rw [if_pos h2] at he
        exact absurd he (failS_ne (by decide))
      · rw [if_neg h2]
        exact ⟨rfl, hs, h1, h2⟩
theorem count_fwd {l : List Int} {s : RS} {most : Int} {n : Nat} {r : List Int} (h : ROk l s) (he : s.e = 0) (hn : (n : Int) ≤ most) (hl : (n : Int) < 18446744073709551616) (hr : n ≤ r.length) (hd : l.drop s.at_ = uintB (n : Int) ++ r) : countS l s most = ((n : Int), ⟨s.at_ + (uintB (n : Int)).length, 0, s.bad⟩) := by
  have hu := (cdc_uint l).fwd s (n : Int) r h he ⟨by omega, hl⟩ hd
  have hle := drop_le hd h.at_
  have hlen := congrArg List.length (drop_next hd)
  rw [List.length_drop] at hlen
  unfold countS
  rw [hu]
  simp only
  rw [if_neg (by decide), if_neg (by omega), if_neg (by omega)]
structure TxtOk (most : Int) (t : List Int) : Prop where
  n : (t.length : Int) ≤ most
  n2 : (t.length : Int) < 18446744073709551616
  b : Bytes t
theorem cdc_bytes (l : List Int) (most : Int) : Cdc l (fun s => bytesS l s most) textB (TxtOk most) where
  fwd := fun s t r h he ho hd => by
    unfold textB at hd
    rw [List.append_assoc] at hd
    have hc := count_fwd (most := most) (n := t.length) h he ho.n ho.n2 (by simp) hd
    have hn := drop_next hd
    show bytesS l s most = _
    unfold bytesS
    rw [hc]
    simp only [Int.toNat_natCast]
    rw [if_neg (by decide), hn]
    simp [textB, Nat.add_assoc]
  bwd := fun s h he => by
    have he : (bytesS l s most).2.e = 0 := he
    show s.e = 0 ∧ TxtOk most (bytesS l s most).1 ∧ (bytesS l s most).2 = ⟨s.at_ + (textB (bytesS l s most).1).length, 0, s.bad⟩ ∧ ∃ r, l.drop s.at_ = textB (bytesS l s most).1 ++ r
    unfold bytesS at he ⊢
    by_cases h0 : ((countS l s most).2.e != 0) = true
    · rw [if_pos h0] at he
      have he : (countS l s most).2.e = 0 := he
      simp [he] at h0
    · rw [if_neg h0] at he ⊢
      have hc : (countS l s most).2.e = 0 := by simpa using h0
      obtain ⟨g1, g2, g3, g4⟩ := count_good hc
      obtain ⟨a1, a2, a3, r, a4⟩ := (cdc_uint l).bwd s h g2
      have hrk := (cdc_uint l).rok s h
      rw [g1]
      obtain ⟨w, s1, hw⟩ : ∃ w s1, uintS l s = (w, s1) := ⟨_, _, rfl⟩
      rw [hw] at a2 a3 a4 g2 g3 g4 hrk ⊢
      simp only at a2 a3 a4 g2 g3 g4 hrk ⊢
      obtain ⟨n, rfl⟩ := Int.eq_ofNat_of_zero_le a2.lo
      have hat := hrk.at_
      have hr : l.drop s1.at_ = r := by rw [a3]; exact drop_next a4
      have hlen : n ≤ r.length := by rw [← hr, List.length_drop]; omega
      have hhi := a2.hi
      simp only [Int.toNat_natCast]
      have ht : (r.take n).length = n := by rw [List.length_take]; omega
      rw [hr]
      refine ⟨a1, ⟨by rw [ht]; omega, by rw [ht]; omega, ⟨fun x hx => ?_⟩⟩, ?_, r.drop n, ?_⟩
      · have hx := List.mem_of_mem_take hx
        rw [← hr] at hx
        exact h.b.b x (List.mem_of_mem_drop hx)
      · unfold textB
        rw [ht, a3]
        simp only [List.length_append, ht]
        rw [Nat.add_assoc]
      · unfold textB
        rw [ht, a4, List.append_assoc, List.take_append_drop]
  rok := fun s h => bytesS_ok h
theorem strOf_data (t : List Int) : (strOf t).data.toList = t.map fun x => UInt8.ofNat x.toNat := by
  unfold strOf strN strL bytesN
  simp only [List.map_map]
  refine List.ext_getElem (by simp) fun i h1 h2 => ?_
  simp at h1
  simp [cellsOf', h1, byteOf, encB, Go.Ax.get]
  rfl
theorem strB_strOf {t : List Int} (h : Bytes t) : strB (strOf t) = t := by
  unfold strB
  rw [strOf_data, List.map_map]
  refine (List.map_congr_left fun x hx => ?_).trans (List.map_id t)
  obtain ⟨h0, h1⟩ := h.b x hx
  simp [UInt8.toNat_ofNat]
  omega
theorem strOf_strB (s : ByteArray) : strOf (strB s) = s := by
  have : (strOf (strB s)).data = s.data := by
    apply Array.ext'
    rw [strOf_data]
    unfold strB
    rw [List.map_map]
    refine (List.map_congr_left fun x hx => ?_).trans (List.map_id _)
    simp
  cases s
  simpa [ByteArray.ext_iff] using this
theorem strB_bytes (s : ByteArray) : Bytes (strB s) := ⟨fun x hx => by
  unfold strB at hx
  obtain ⟨y, _, rfl⟩ := List.mem_map.1 hx
  have := y.toNat_lt
  omega⟩
theorem cdc_str (l : List Int) (most : Int) : Cdc l (fun s => strS l s most) (fun s => textB (strB s)) (fun s => (s.size : Int) ≤ most ∧ (s.size : Int) < 18446744073709551616) :=
  (cdc_bytes l most).map strOf strB strOf_strB (fun t ht => ⟨by rw [strB_strOf ht.b], by rw [← strB_len, strB_strOf ht.b]; exact ⟨ht.n, ht.n2⟩⟩) (fun s hs => ⟨by rw [strB_len]; exact hs.1, by rw [strB_len]; exact hs.2, strB_bytes s⟩)
end Go.Proofs.YtnbhdjadlbhknaaGreatDoor.J
