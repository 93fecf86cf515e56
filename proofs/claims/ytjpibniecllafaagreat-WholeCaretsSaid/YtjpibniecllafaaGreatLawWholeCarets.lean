/- Made by pack.py: LawWholeCarets. No condition but what it says. -/
import Derived.Test.YtjpibniecllafaaGreatC7
import Derived.Test.YtjpibniecllafaaGreatRows
import Derived.Test.YtjpibniecllafaaGreatC25
import Derived.WalkKit
import Derived.ProofKit
import Derived.OpenShut
import Derived.ShutString
import Derived.ChangeOld
import Derived.Below
import Derived.SizedLaws
set_option linter.unusedSimpArgs false
set_option linter.unusedVariables false
set_option maxHeartbeats 16000000
section
namespace Go.Proofs.YtjpibniecllafaaGreat.wholeCarets
open Go.ChangeShapes Go.WideShapes Go.ChangeAt Go.RowKit Go.Proofs.YtjpibniecllafaaGreat.AM
theorem own:ownKnob Tryz.prog.godebug=none:=by kernel_rfl
theorem laidOut:laidOutB Tryz.prog=true:=by kernel_rfl
theorem shapesOk:okPShs Tryz.prog Tryz.f4.params.toList shapes=true:=by decide +kernel
set_option maxRecDepth 100000 in
theorem lifted (os:Os)(started:os.Started)(H:Type)(enc:TypeId×Value->H) :
 ReturnsInHanded {} Tryz.checked os 4 .any (Rows.wholeCaretsSpec.pre6 enc Tryz.prog Tryz.f4 Rows.wholeCaretsRow.domain false) (Rows.wholeCaretsSpec.post enc Tryz.prog Tryz.f4 false true false false):=by
 refine returnsInHanded_of_change_sized (C:=Tryz.checked) own started (by kernel_rfl) Tryz.func4
  (ChangeSpec.witness6 (enc:=enc) (C:=Tryz.checked) false ⟨#[],#[.int .u8 0,.string ByteArray.empty],[]⟩ 8 (by kernel_rfl) (by kernel_rfl) (by kernel_rfl) (by kernel_rfl)) ?_
 intro W base args ds gs before hval0 hW hcnd hsz0 _
 have hW':=hW
 obtain⟨p,q,hA0,hV,rfl,hfz,hnd⟩:=hW
 have hA:DataW.TrodAll enc Tryz.prog W 0 (fun _=>true) true Tryz.f4.params.toList args.toList ds p:=hA0
 have hlen:ds.length=2:=by
  have h1:=hA
  rw[Tryz.params4]at h1
  obtain⟨v0,vs0,d0,ds0,p0,q0,hargs,rfl,rfl,g0,r0⟩:=trodAll_cons h1
  obtain⟨v1,vs1,d1,ds1,p1,q1,rfl,rfl,rfl,g1,r1⟩:=trodAll_cons r0
  obtain⟨rfl,rfl,rfl⟩:=trodAll_nil r1
  rfl
 obtain⟨d1,d2,rfl⟩:∃ d1 d2,ds= [d1,d2]:=by
  match ds,hlen with
  | [a0,a1],_=>exact⟨a0,a1,rfl⟩
 obtain⟨rfl,rfl⟩:=trodVars_none hV
 obtain⟨xs,hr,hw⟩:=To5 shapesOk (fun j t v ht hv=>hval0 j t v (by simpa using ht) (by simpa using hv)) hA
 refine(Txo EVok hr (law xs hw)).mono fun e W' ⟨he,bel⟩=> ?_
 subst he
 exact⟨_,rfl,_,_,_,[],_,[],hW',trodAll_mk1 (shut_bool Tryz.underlying4 _),Tly laidOut bel shapesOk hA,rfl,bel.frame _,fun h=>by cases h⟩
theorem over:Rows.wholeCaretsRow.holds Tryz.pinned (OpenSpec.ofChange Rows.wholeCaretsSpec) :=
 OpenClaim.holds_of_wide 4 Tryz.f4 rfl rfl rfl rfl rfl rfl rfl ⟨rfl,rfl,rfl,rfl,rfl⟩ rfl rfl rfl rfl rfl (by kernel_rfl) Tryz.func4 (by kernel_rfl)
  (of_decide_eq_true (by kernel_rfl)) (by unfold Func.isWrapper; first | (rw[if_pos (by decide +kernel)]; kernel_rfl) | (rw[if_neg (by decide +kernel)]; exact⟨rfl,rfl⟩))
  (fun os started H enc _=>lifted os started H enc)
theorem proved:Rows.WholeCaretsSaid:=over
end Go.Proofs.YtjpibniecllafaaGreat.wholeCarets
namespace Go.Proofs.YtjpibniecllafaaGreat
theorem wholeCarets_holds:Rows.WholeCaretsSaid:=wholeCarets.proved
end Go.Proofs.YtjpibniecllafaaGreat
end
