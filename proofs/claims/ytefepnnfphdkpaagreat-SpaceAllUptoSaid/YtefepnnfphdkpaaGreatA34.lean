/- SpaceAll: a part of its proof; conditions: its statement's. -/
import Derived.Test.YtefepnnfphdkpaaGreatA33
import Derived.Test.YtefepnnfphdkpaaGreatA28
import Derived.WalkKit
import Derived.ProofKit
import Derived.OpenShut
import Derived.ChangeSlices
import Derived.Test.YtefepnnfphdkpaaGreatRows
import Derived.JoinedCond
import Derived.ChangeBook
import Derived.ChangeStays
namespace Go.Proofs.YtefepnnfphdkpaaGreat.Am
open Go Go.ChangeShapes
def u7 (W:World)(S:List au)(c:Ctx)(σ:H): Prop:=Rel c σ W∧Dq c∧Sat σ S
theorem u7.zero (W:World): ∃c σ,u7 W [] c σ:=by
 refine ⟨_,_,Rel.empty W,fun id h=>absurd h (zG _),⟨fun id o h=>by simp [T.gV] at h,fun _=>none,fun _=>none,fun _ _ h=>(by cases h),fun _ _ h=>(by cases h),fun _=>.inl rfl,aa⟩⟩
theorem u7.sat {W:World}{S S':List au}{c:Ctx}{σ:H}(h:u7 W S c σ)(hs:∀h,Sat h S→Sat h S'): u7 W S' c σ:=⟨h.1,h.2.1,hs σ h.2.2⟩
def VG {α:Type}(W:World)(cs:List Value)(E:List V→α→au)(φ:α→Prop): Prop :=
 ∀(c:Ctx) (σ:H) (S:List au),u7 W S c σ→∃(c':Ctx) (I:H) (J:List V) (x:α),u7 W (E J x::S) c' I∧Ext c c'∧J.map (conc c')=cs∧(∀v∈J,wf c' v∧storable v=true)∧φ x
def VH (I:List V)(l:List Nat): au:=.xs fun v:V=>.an (.pu (I=[v])) (.cr v l)
theorem Lv {W:World}{a:Addr}{v:Value}(h:W.cell? a=some v): ∃b off,a=⟨b,off,none⟩∧∃C e I,W.heap[b]?=some (.cells C e I)∧C[off]?=some v:=by
 obtain ⟨b,off,spot⟩:=a
 have hs:spot=none:=World.cell?_spot h
 subst hs
 refine ⟨b,off,rfl,?_⟩
 unfold World.cell? at h
 split at h
 ·rename_i C e I J
  exact ⟨C,e,I,J,by simpa using h⟩
 ·cases h
theorem NX {α β:Type}{f:α→β}{l:List α}{b:β}(h:l.map f=[b]): ∃a,l=[a]∧f a=b:=by
 rcases l with _ | ⟨a,_ | ⟨c,l⟩⟩
 ·cases h
 ·simp at h; exact ⟨a,rfl,h⟩
 ·simp at h
end Go.Proofs.YtefepnnfphdkpaaGreat.Am
namespace Go.Proofs.YtefepnnfphdkpaaGreat.Am
open Go Go.ChangeShapes Go.WideShapes Go.ChangeAt Go.RowKit
theorem Lw {H:Type}(d:DataW H): 1≤Rows.uptoBulk d:=by
 cases d with
 | lit l=>cases l <;> simp [Rows.uptoBulk]
 | nil=>simp [Rows.uptoBulk]
 | ptr d=>simp [Rows.uptoBulk]
 | slice elems spare=>simp [Rows.uptoBulk]
 | agg parts=>simp [Rows.uptoBulk]
 | iface t d=>simp [Rows.uptoBulk]
 | map entries=>simp [Rows.uptoBulk]
 | held h=>simp [Rows.uptoBulk]
theorem JK {H:Type}{d:DataW H}: ∀ {l:List (DataW H)},d∈l→Rows.uptoBulk d≤Rows.uptoBulkAll l:=by
 intro l
 induction l with
 | nil=>intro h; cases h
 | cons x r I =>
  intro h
  simp only [Rows.uptoBulkAll]
  rcases List.mem_cons.1 h with e | e
  ·subst e; omega
  ·have:=I e; omega
theorem Lx {H:Type}: ∀(l:List (DataW H)),l.length≤Rows.uptoBulkAll l:=by
 intro l
 induction l with
 | nil=>exact eO _
 | cons x r I=>have:=Lw x; simp only [Rows.uptoBulkAll,bf]; omega
theorem G2 {H:Type}(a b:List (DataW H)): Rows.uptoBulk (.slice a b)=Rows.uptoBulkAll a+Rows.uptoBulkAll b+1:=by simp only [Rows.uptoBulk]
theorem NY {W:World}{b o:Nat}{C:Array Value}{e:TypeId}{I:Nat×Nat}(J:W.heap[b]?=some (.cells C e I)): W.cell? ⟨b,o,none⟩=C[o]?:=by
 unfold World.cell?
 simp only [J]
 rfl
section
variable {H':Type} {enc:TypeId×Value→H'} {W:World} {fuel B:Nat} {cs:List Value} {x:DataW H'×List MemPlace}
theorem NZ (h:DataW.trod enc Tryz.prog W 0 (fun _=>true) true fuel 28 cs=some x)(hB:Rows.uptoBulk x.1≤B): VG W cs VH (fun l=>l.length≤B):=by
 rcases open_ints aM Tryz.underlying5 (by kernel_rfl) h with ⟨rfl,rfl⟩ | ⟨a,len,cap,zs,rfl,_,Mp,_,hz,rfl,I,gP⟩
 ·exact fun c σ S h=>⟨c,σ,[.bq],[],h.sat fun h s=>s.oJ.gR fun m r k=>⟨.bq,rfl,k⟩,Ext.refl c,by simp [conc],fun v hv=>by rw [List.mem_singleton.1 hv]; exact ⟨aa,rfl⟩,eO _⟩
 ·rw [aq rfl] at hz
  by_cases h0:cap=0
  ·have:len=0:=by omega
   subst this
   subst h0
   exact fun c σ S h=>⟨c,σ,[.sle a],[],h.sat fun h s=>(s.hO (φ:=True) aa).gR fun m r k=>⟨.sle a,rfl,by simp,.inl ⟨.inr ⟨a,rfl⟩,rfl⟩⟩,Ext.refl c,by simp [conc],fun v hv=>by rw [List.mem_singleton.1 hv]; exact ⟨aa,rfl⟩,eO _⟩
  ·have g0:=I 0 (by omega)
   obtain ⟨b,off,spot⟩:=a
   have hs:spot=none:=by simpa [Addr.add] using World.cell?_spot g0
   subst hs
   have I:∀i,i<zs.length→W.cell? ⟨b,off+i,none⟩=some (.int .u8 (zs.getD i 0)):=fun i hi=>by have:=I i hi; rwa [add_plain] at this
   obtain ⟨b',off',he,C,e,fz,hb,VI⟩:=Lv (I 0 (by omega))
   simp only [Addr.mk.injEq,rK] at he
   obtain ⟨rfl,rfl⟩:=he
   have hC:∀i,i<zs.length→C[off+i]?=some (.int .u8 (zs.getD i 0)):=fun i hi=>by rw [←NY hb]; exact I i hi
   have Wa:off<C.size:=by
    have:=(Array.getElem?_eq_some_iff.1 VI).1
    omega
   have Si:∀z∈zs,0≤z∧z<256:=fun z hz=>by
    have:=gP z hz
    simp only [Lit.wf,aG,dR] at this
    have e1:IntKind.min .u8=0:=rfl
    have e2:IntKind.max .u8=255:=rfl
    omega
   have J:((zs.take len).map Int.toNat).length=len:=by rw [eM,gM]; omega
   have AO:(ofBytes ((zs.take len).map Int.toNat)).length=len:=by rw [bZ,J]
   have Tt:∀y∈(zs.take len).map Int.toNat,y<256:=fun y hy=>by
    obtain ⟨z,xx,rfl⟩:=List.mem_map.1 hy
    have:=Si z (gm xx)
    omega
   intro c σ S h
   have eU:off+(ofBytes ((zs.take len).map Int.toNat)).length≤C.size:=by
    rw [AO]
    by_cases BU:len=0
    ·omega
    ·have:=(Array.getElem?_eq_some_iff.1 (hC (len-1) (by omega))).1
     omega
   have Tu:∀j v,(ofBytes ((zs.take len).map Int.toNat))[j]?=some v→C[off+j]?=some (conc c v):=fun j v hv=>by
    have hj:=(List.getElem?_eq_some_iff.1 hv).1
    rw [AO] at hj
    rw [hC j (by omega)]
    simp only [ofBytes,rF,jU,iP,aq hj] at hv
    have Iy:zs[j]?=some (zs[j]'(by omega)):=aN _
    rw [Iy] at hv
    have hv:=bH hv
    subst hv
    have hb:=Si (zs[j]'(by omega)) (oX _)
    have hd:zs.getD j 0=zs[j]'(by omega):=by rw [dF,Iy]; rfl
    rw [hd]
    simp only [Function.comp,conc]
    congr 2
    omega
   obtain ⟨g1,g2,g3,g4,g5⟩:=h.1.fix h.2.1 hb (off:=off) eU Tu (fun v hv=>by obtain ⟨n,_,rfl⟩:=List.mem_map.1 hv; exact ⟨aa,rfl⟩)
   refine ⟨_,_,[.sl σ.next 0 len (.exact cap)],(zs.take len).map Int.toNat,⟨g1,g2,?_⟩,g3,?_,fun v hv => ?_,?_⟩
   ·have s1:=(h.2.2.new (.cells (ofBytes ((zs.take len).map Int.toNat)).length (ofBytes ((zs.take len).map Int.toNat)) true)).freeze
    refine s1.gR fun m r k=>⟨_,rfl,Tt,.inr ⟨σ.next,0,.exact cap,_,_,true,by rw [J],k,rfl,by rw [AO,J]; omega,?_,?_⟩⟩
    ·rw [ej]; exact eA (by rw [AO,J]; exact aE _)
    ·show _≤cap; rw [J]; exact Mp
   ·simp [conc,g4]
   ·rw [List.mem_singleton.1 hv]
    exact ⟨⟨g5,Mp⟩,rfl⟩
   ·rw [G2] at hB
    have h1:=Lx (lits (H:=H') .u8 (zs.take len))
    have h2:(lits (H:=H') .u8 (zs.take len)).length=len:=by simp [lits]; omega
    rw [J]; omega
end
end Go.Proofs.YtefepnnfphdkpaaGreat.Am
namespace Go.Proofs.YtefepnnfphdkpaaGreat.Am
open Go
noncomputable def BG (f:Nat): Option (List V→H→Option (V×H)) :=
 cond (Nat.beq f 31) (some (qi Tryz.prog 31 (GW 31))) (vP f)
noncomputable abbrev CS : bY:=⟨Tryz.prog,BG⟩
theorem Lz : WS BG:=by
 refine ⟨⟨fun f I => ?_,rfl,rfl⟩,rfl⟩
 have J:f≠31:=fun e=>by subst e; revert I; decide
 simp only [BG,cE J,ay]
 exact W.base.free f I
theorem Dr : fg CS:=by
 intro f g I
 simp only [CS,BG] at I ⊢
 by_cases J:f=31
 ·subst J
  rw [gr rfl,af] at I
  simp only [aj] at I
  subst I
  exact IS ⟨_,Dl,rfl,by decide⟩
 ·rw [cE J,ay] at I
  exact CL f g I
theorem jd.VJ {f:FuncId}{args:List V}{h h':H}{v:V}(J:jd CS f args h v h'){c:Ctx}{w:World}(I:Rel c h w)(hw:∀x∈args,wf c x): iF Tryz.prog f args c w v h':=by
 obtain ⟨N,hN⟩:=J
 exact (pV (C:=CS) (xR CK Dr N).1 Dr hN I hw).1
theorem JL {H':Type}{enc:TypeId×Value→H'}{W:World}{fuel:Nat}{x:DataW H'×List MemPlace}{n:Int}{v:Value}(h:DataW.trod enc Tryz.prog W 0 (fun _=>true) true fuel 28 [v]=some x)(hB:Rows.uptoBulk x.1≤1048576):
  Calls Tryz.prog 4 #[.int .i64 n,v] W fun e w'=>e=.returned (.bool true)∧W.keptBut w' (fun _=>False)∧W.heap.size≤w'.heap.size∧∀b,b<W.heap.size→w'.heap[b]?=W.heap[b]?:=by
 obtain ⟨c0,J,h0⟩:=u7.zero W
 obtain ⟨c,σ,vs,l,hr,_,hm,gP,hl⟩:=NZ h hB c0 J [] h0
 obtain ⟨dv,rfl,VK⟩:=NX hm
 obtain ⟨VL,s⟩:=g8.1 hr.2.2
 have s0:=s
 obtain ⟨_,_,_,_,hk⟩:=s0.at (k:=0) rfl
 have e:[dv]=[VL]:=hk.1
 injection e with e _
 subst e
 have s1:=s.gR (B:=.cr dv l) fun _ _ k=>k.2
 obtain ⟨v',h',HP,rfl⟩:=NV Lz (n0:=n) s1
 have I:=HP.VJ hr.1 (fun x hx=>by
  rcases List.mem_cons.1 hx with rfl | hx
  ·exact aa
  ·rw [List.mem_singleton.1 hx]; exact (gP dv (by simp)).1)
 unfold iF at I
 have ea:(([V.int .i64 n,dv].map (conc c)).toArray) = #[.int .i64 n,v]:=by simp [conc,VK]
 rw [ea] at I
 refine Calls.mono I ?_
 rintro e w' ⟨c',rfl,_,_,hs⟩
 obtain ⟨k1,k2,k3⟩:=D_ hr.2.1 hs
 exact ⟨by simp [conc],k1,k2,k3⟩
end Go.Proofs.YtefepnnfphdkpaaGreat.Am
namespace Go.Proofs.YtefepnnfphdkpaaGreat.SpaceAll
open Go.ChangeShapes Go.WideShapes Go.ChangeAt Go.RowKit
theorem own : ownKnob Tryz.prog.godebug=none:=by kernel_rfl
theorem laid : laidOutB Tryz.prog=true:=by kernel_rfl
theorem Qe : Tryz.prog.readableRec 28=true:=by kernel_rfl
theorem row : (28:TypeId)<Tryz.prog.types.size:=of_decide_eq_true (by kernel_rfl)
set_option maxRecDepth 100000 in
theorem LA (H:Type)(enc:TypeId×Value→H)(W:World)(base:Nat)(args:Array Value)(ds gs:List (DataW H))(before:List MemPlace)
 (I:∀(j:Nat) t v,Tryz.f4.params[j]?=some t→args[j]?=some v→Value.okWide Tryz.prog W .any base t v)
 (hW:DataW.Whole enc Tryz.prog Tryz.f4.params.toList Rows.spaceAllSpec.vars false W args.toList ds gs before)(hk:Rows.uptoBulkAll (ds++gs)≤1048576):
  Calls Tryz.prog 4 args W fun e W'=>∃v,e=.returned v∧Rows.spaceAllSpec.post enc Tryz.prog Tryz.f4 false true false false W args v W':=by
 have Sj:=hW
 obtain ⟨p,q,VM,hV,rfl,rO,qz⟩:=hW
 have hA:DataW.TrodAll enc Tryz.prog W 0 (fun _=>true) true Tryz.f4.params.toList args.toList ds p:=VM
 rw [Tryz.params4] at hA I
 obtain ⟨v0,WM,d0,WN,p0,q0,BD,rfl,rfl,h0,r0⟩:=trodAll_cons hA
 obtain ⟨v1,WO,d1,WQ,p1,q1,rfl,rfl,rfl,h1,r1⟩:=trodAll_cons r0
 obtain ⟨rfl,rfl,rfl⟩:=trodAll_nil r1
 obtain rfl:args = #[v0,v1]:=by cases args; simp_all
 obtain ⟨rfl,rfl⟩:=trodVars_none hV
 obtain ⟨a0,rfl,rfl,rfl,w0⟩:=open_int Tryz.underlying3 (I 0 3 v0 rfl rfl) h0
 obtain ⟨fuel,h1⟩:=h1
 have qt:v1.cells.toList=[v1]:=by
  have:=I 1 28 v1 rfl rfl
  simp only [Value.okWide,Tryz.underlying28,Cell.okWide,Cell.ok] at this
  split at this <;> first | rfl | exact this.elim
 have VN:=h1
 rw [qt] at h1
 have hb:Rows.uptoBulk d1≤1048576:=by
  have:=Am.JK (l:=([DataW.lit (Lit.int .i64 a0),d1]++([]:List (DataW H)))) (d:=d1) (by simp)
  exact Nat.le_trans this hk
 refine (Am.JL (n:=a0) h1 hb).mono fun e W' ⟨he,hg,hs,J⟩ => ?_
 subst he
 have br:∀x∈p1,x.block<W.heap.size:=fun x hx=>Sj.lt x (by simp [hx])
 have vx:DataW.trod enc Tryz.prog W' 0 (fun b=>decide (b<W.heap.size)) true fuel 28 v1.cells.toList=some (d1,p1) :=
  DataW.trod_stays (kids_book laid Qe) (book_sized Qe) (fun h=>by cases h) ⟨row,book_self _⟩ VN (fun x hx=>by
   have hl:=br x hx
   cases x with
   | cell b off =>
    show W'.cell? ⟨b,off,none⟩=W.cell? ⟨b,off,none⟩
    unfold World.cell?
    rw [J b hl]
   | map b=>exact J b hl) (fun x hx=>by simpa using br x hx)
 exact ⟨_,rfl,⟨_,[],_,[],_,[],Sj,trodAll_cons_mk (shut_bool Tryz.underlying4 _) trodAll_mk0,trodAll_cons_mk (shut_int Tryz.underlying3 w0) (trodAll_cons_mk ⟨fuel,vx⟩ trodAll_mk0),rfl,World.keptBut_mono (fun _ f=>f.elim) hg,fun h=>by cases h⟩⟩
set_option maxRecDepth 100000 in
theorem lifted (os:Os)(started:os.Started)(H:Type)(enc:TypeId×Value→H)(F:Stop.Interp):
  ReturnsInHanded {} Tryz.checked os 4 .any ((Rows.OpenSpec.upto Rows.spaceAllSpec).pre6 enc Tryz.prog Tryz.f4 Rows.spaceAllUptoRow.domain false) (((Rows.OpenSpec.upto Rows.spaceAllSpec).at F).post enc Tryz.prog Tryz.f4 false true false false):=by
 refine returnsInHanded_of_cond (C:=Tryz.checked) (s:=Rows.OpenSpec.upto Rows.spaceAllSpec) (k:=Rows.uptoSmall) rfl own started (by kernel_rfl) Tryz.func4
  (OpenSpec.witness (enc:=enc) (C:=Tryz.checked) (s:=Rows.OpenSpec.upto Rows.spaceAllSpec) (k:=Rows.uptoSmall) rfl false ⟨#[], #[.int .i64 0,.slice none 0 0],[]⟩ 8 (by kernel_rfl) (by kernel_rfl) (by kernel_rfl)
   (x:=([.lit (.int .i64 0),.nil],[],[])) (by kernel_rfl) rfl (by kernel_rfl)) ?_
 intro W base args ds gs before I J _ hk _
 exact LA H enc W base args ds gs before I J (of_decide_eq_true hk)
theorem bE : Rows.spaceAllUptoRow.holds Tryz.pinned (Rows.OpenSpec.upto Rows.spaceAllSpec) :=
 OpenClaim.holds_of_cond 4 Tryz.f4 rfl rfl rfl rfl rfl rfl rfl ⟨rfl,rfl,rfl,rfl,rfl⟩ rfl rfl rfl rfl rfl (by kernel_rfl) Tryz.func4 (by kernel_rfl)
  (of_decide_eq_true (by kernel_rfl)) (by unfold Func.isWrapper; first | (rw [if_pos (by decide +kernel)]; kernel_rfl) | (rw [if_neg (by decide +kernel)]; exact ⟨rfl,rfl⟩))
  (fun os started H enc _ F=>lifted os started H enc F)
theorem proved : Rows.SpaceAllUptoSaid :=
 bE
#print axioms proved
end Go.Proofs.YtefepnnfphdkpaaGreat.SpaceAll
