/- SpacePlays: a part of its proof; conditions: its statement's. -/
import Derived.Test.YtefepnnfphdkpaaGreatE02
namespace Go.Proofs.YtefepnnfphdkpaaGreat.Am
open Go
section
variable {P:Program} {c:Ctx} {σ:H} {w:World}
theorem cC {t:TypeId}{k:Nat}(h:bq P t=some k)(w:World): (sizeOf t).run P w=.ok k w:=by
 unfold bq at h
 cases hi:P.info? t with
 | none=>simp [hi] at h
 | some i=>simp [hi] at h; simp [sizeOf,typeInfo,hi,h]
theorem q_ {t:TypeId}{b:Bool}(h:b8 P t=some b)(w:World): (isAgg t).run P w=.ok b w:=by
 unfold b8 at h
 cases hu:P.underlying t with
 | none=>simp [hu] at h
 | some d=>cases d <;> simp [hu] at h <;> subst h <;> simp [isAgg,run_underlying hu]
theorem Ac (s:ByteArray): (⟨((s.data.toList.map (·.toNat)).map UInt8.ofNat).toArray⟩:ByteArray)=s:=by
 have:(s.data.toList.map (·.toNat)).map UInt8.ofNat=s.data.toList:=by
  rw [yU]
  have:(UInt8.ofNat∘fun (x:UInt8)=>x.toNat)=id:=by funext x; simp
  rw [this]; simp
 rw [this]
theorem qj {x:Value}{v:V}(h:ofScalar x=some v)(c:Ctx): conc c v=x∧wf c v∧v.cells=[v]:=by
 unfold ofScalar at h
 split at h <;> simp only [ak,reduceCtorEq] at h
 all_goals subst h
 all_goals refine ⟨?_,?_,by simp [V.cells]⟩
 all_goals first
  | (simp only [conc]; done)
  | (simp only [wf]; done)
  | (simp only [conc]; rw [Ac])
  | (simp only [wf,m_]; rintro x ⟨y,_,rfl⟩; exact y.toNat_lt)
theorem GS {l:List Value}{m:List V}(h:mapO ofScalar l=some m)(c:Ctx): m.map (conc c)=l∧(∀v∈m,wf c v):=by
 induction l generalizing m with
 | nil=>simp [mapO] at h; subst h; simp
 | cons x l ih =>
  simp only [mapO] at h
  cases I:ofScalar x with
  | none=>simp [I] at h
  | some y =>
   cases J:mapO ofScalar l with
   | none=>simp [I,J] at h
   | some m' =>
    simp [I,J] at h
    subst h
    have h1:=qj I c
    have h2:=ih J
    exact ⟨by simp [h1.1,h2.1],by simpa using ⟨h1.2.1,h2.2⟩⟩
theorem rf {x:Value}{v:V}(h:ofValue x=some v)(c:Ctx): conc c v=x∧wf c v:=by
 unfold ofValue at h
 split at h
 ·rename_i cs
  cases hm:mapO ofScalar cs.toList with
  | none=>simp [hm] at h
  | some m =>
   simp [hm] at h
   subst h
   have I:=GS hm c
   refine ⟨?_,?_⟩
   ·simp only [conc,fL,I.1]
   ·simp only [wf,fR]; exact I.2
 ·rename_i J
  split at h
  ·rename_i hl
   simp at h; subst h
   have:J = #[]:=by simpa using hl
   subst this
   exact ⟨by simp [conc,concL],by simp [wf,eW]⟩
  ·simp at h
 ·exact ⟨(qj h c).1,(qj h c).2.1⟩
theorem fM {t:TypeId}{z:V}(h:zeroT P t=some z)(c:Ctx)(w:World): (zeroValue t).run P w=.ok (conc c z) w∧wf c z:=by
 unfold zeroT at h
 cases hi:P.info? t with
 | none=>simp [hi] at h
 | some i =>
  cases I:i.zero with
  | none=>simp [hi,I] at h
  | some x =>
   simp only [hi,I,ck] at h
   have h0:ofValue x=some z:=by
    split at h
    ·simp at h
    ·exact h
   have J:=rf h0 c
   exact ⟨by simp [zeroValue,typeInfo,hi,I,J.1],J.2⟩
theorem qU {x:Value}{v:V}(h:ofScalar x=some v): storable v=true:=by
 unfold ofScalar at h
 split at h <;> simp only [ak,reduceCtorEq] at h
 all_goals subst h; rfl
theorem lq {t:TypeId}{z:V}(h:zeroT P t=some z): ∀v∈z.cells,storable v=true:=by
 unfold zeroT at h
 split at h
 ·rename_i x hx
  split at h
  ·simp at h
  ·rename_i hn
   unfold ofValue at h
   split at h
   ·rename_i cs
    cases hm:mapO ofScalar cs.toList with
    | none=>simp [hm] at h
    | some m =>
     simp [hm] at h
     subst h
     have:∀(l:List Value) (m:List V),mapO ofScalar l=some m→∀v∈m,storable v=true:=by
      intro l
      induction l with
      | nil=>intro m h; simp [mapO] at h; subst h; simp
      | cons a l ih =>
       intro m h
       simp only [mapO] at h
       cases I:ofScalar a with
       | none=>simp [I] at h
       | some b =>
        cases J:mapO ofScalar l with
        | none=>simp [I,J] at h
        | some m' =>
         simp [I,J] at h
         subst h
         intro v hv
         rcases List.mem_cons.1 hv with rfl | hv
         ·exact qU I
         ·exact ih m' J v hv
     exact this _ _ hm
   ·rename_i vs
    split at h
    ·rename_i S4
     simp only [ak] at h
     exact absurd (by simp [ofValue,S4]) (hn [])
    ·simp at h
   ·intro v hv
    have I:=(qj h ⟨fun _=>(0,0),fun _=>0,0,fun _=>false⟩).2.2
    rw [I] at hv
    simp only [uJ] at hv
    subst hv
    exact qU h
 ·simp at h
theorem vG (c:Ctx)(v:V): (conc c v).cells.toList=v.cells.map (conc c):=by
 cases v with
 | agg l=>simp [conc,Value.cells,V.cells,fL]
 | sl id off len cap=>cases cap <;> simp [conc,Value.cells,V.cells]
 | _=>simp [conc,Value.cells,V.cells]
theorem fy (c:Ctx)(v:V): (conc c v).cells=(v.cells.map (conc c)).toArray:=by
 rw [←vG]
theorem jm {v:V}(h:wf c v): ∀x∈v.cells,wf c x:=by
 cases v with
 | agg l=>simpa [V.cells,wf,fR] using h
 | _=>simpa [V.cells] using h
theorem w6 {env:Env}{n:Nat}{a:Act}(he:dy c env n a){x:Operand}{v:V}(h:evO env x=some v): a.eval x=conc c v∧wf c v:=by
 cases x with
 | tmp t=>simp [evO] at h; subst h; exact ⟨by simpa [Act.eval] using he.val t,he.A2 t⟩
 | const k=>have:=rf (show ofValue k=some v from h) c; exact ⟨by simp [Act.eval,this.1],this.2⟩
 | global g=>simp [evO] at h
 | func f=>simp [evO] at h; subst h; exact ⟨by simp [Act.eval,conc,concL],by simp [wf,eW]⟩
def eX (c:Ctx)(id off:Nat): Addr:=⟨(c.ρ id).1,(c.ρ id).2+off,none⟩
theorem r6 (id off j:Nat): (eX c id off).add j=eX c id (off+j):=by
 simp only [eX,Addr.add_lit,jf]
theorem cell_of {id n:Nat}{cs:List V}{st:Bool}(h:Rel c σ w)(I:σ.tr.get id=some (.cells n cs st)){j:Nat}{v:V}(hv:cs[j]?=some v):
  w.cell? (eX c id j)=some (conc c v):=by
 obtain ⟨_,_,C,e,fz,J,_,hc,_⟩:=h.obj id _ I
 simp [World.cell?,eX,J,hc j v hv]
theorem sB {id off k:Nat}{J:List V}(h:Rel c σ w)(I:rdN σ id off k=some J):
  J.length=k∧(∀v∈J,wf c v∧storable v=true)∧∀j x,(J.map (conc c))[j]?=some x→w.cell? ((eX c id off).add j)=some x:=by
 unfold rdN at I
 split at I
 ·rename_i n cs st hg
  obtain ⟨hn,iS,_⟩:=h.obj id _ hg
  cases hb:Nat.ble (off+k) n with
  | false=>simp [hb] at I
  | true =>
   have hle:=aF.1 hb
   simp only [hb,ag,ak] at I
   have S4:J=(cs.drop off).take k:=by
    rw [←I]
    cases hq:(Nat.beq off 0&&Nat.beq k n) with
    | false=>rfl
    | true =>
     simp only [aJ] at hq
     have h0:=beq_iff.1 hq.1
     have h1:=beq_iff.1 hq.2
     subst h0; simp [h1,hn]
   subst S4
   refine ⟨by simp; omega,fun v hv=>iS v (iH (je hv)),fun j x hx => ?_⟩
   rw [r6]
   simp only [m8,Option.map_eq_some_iff] at hx
   obtain ⟨v,hv,rfl⟩:=hx
   have Ae:cs[off+j]?=some v:=by
    rw [kX] at hv
    split at hv
    ·rwa [jH] at hv
    ·simp at hv
   exact cell_of h hg Ae
 ·simp at I
theorem Cw {id off k:Nat}{I:List V}(h:Rel c σ w)(J:rdN σ id off k=some I):
  (loadCells (eX c id off) k).run P w=.ok (I.map (conc c)).toArray w:=by
 obtain ⟨hl,_,hc⟩:=sB h J
 have:=run_loadCells_list (P:=P) (w:=w) (eX c id off) (I.map (conc c)) hc
 rwa [dF,hl] at this
theorem S5 {id off:Nat}{v:V}(h:Rel c σ w)(I:wG σ id off=some v): w.cell? (eX c id off)=some (conc c v)∧wf c v:=by
 unfold wG at I
 split at I
 ·rename_i n cs st hg
  rw [fG] at I
  obtain ⟨_,J,_⟩:=h.obj id _ hg
  exact ⟨cell_of h hg I,(J v (a_ I)).1⟩
 ·simp at I
theorem EK {t:TypeId}{a v:V}(h:Rel c σ w)(I:loadV P σ t a=some v):
  (Instr.loadAt t (conc c a)).run P w=.ok (conc c v) w∧wf c v:=by
 unfold loadV at I
 split at I
 ·rename_i id off
  have ha:conc c (.ptr id off)=.pointer (some (eX c id off)):=by simp [conc,eX]
  rw [ha]
  split at I
  ·rename_i hg
   split at I
   ·rename_i k hk
    cases J:rdN σ id off k with
    | none=>simp [J] at I
    | some vs =>
     simp [J] at I
     subst I
     have h1:=Cw (P:=P) h J
     have h2:=sB h J
     refine ⟨?_,by simp only [wf,fR]; exact fun v hv=>(h2.2.1 v hv).1⟩
     simp [Instr.loadAt,Instr.sureAddr,loadVar,q_ hg,cC hk,h1,conc,fL]
   ·simp at I
  ·rename_i hg
   have h1:=S5 h I
   exact ⟨by simp [Instr.loadAt,Instr.sureAddr,loadVar,q_ hg,h1.1],h1.2⟩
  ·simp at I
 ·simp at I
def World.setRow (w:World)(b:Nat)(C:Array Value)(e:TypeId)(I:Nat×Nat): World:={ w with heap:=w.heap.setIfInBounds b (.cells C e I) }
theorem GU {b:Nat}{C:Array Value}{e:TypeId}{fz:Nat×Nat}(hb:w.heap[b]?=some (.cells C e fz))(p:Nat)(v:Value):
  w.setCell ⟨b,p,none⟩ v=World.setRow w b (C.setIfInBounds p v) e fz:=by
 unfold World.setCell World.setRow
 congr 1
 apply pH
 intro i
 rw [Cb,mc]
 obtain ⟨I,J⟩:=Array.getElem?_eq_some_iff.1 hb
 by_cases hi:b=i
 ·subst hi
  simp [I,J]
 ·simp [hi]
theorem gK {b:Nat}{C:Array Value}{e:TypeId}{I:Nat×Nat}(J:b<w.heap.size)(i:Nat):
  (World.setRow w b C e I).heap[i]?=if b=i then some (.cells C e I) else w.heap[i]?:=by
 unfold World.setRow
 simp only [mc,J,bE]
theorem setRow_setRow {b:Nat}{C D:Array Value}{e:TypeId}{I:Nat×Nat}:
  World.setRow (World.setRow w b C e I) b D e I=World.setRow w b D e I:=by
 unfold World.setRow
 simp
theorem u6 : ∀(I:List Value) (i:Nat) (w:World) (b p:Nat) (C:Array Value) (e:TypeId) (J:Nat×Nat),
  w.heap[b]?=some (.cells C e J)→(∀j,j<C.size→¬ (J.1≤j∧j<J.2))→p+i+I.length≤C.size→(∀v∈I,v.oneCell'=true) →
  ∃C',(storeCells ⟨b,p,none⟩ I i).run P w=.ok () (World.setRow w b C' e J)∧C'.size=C.size ∧
   ∀j,C'[j]?=if p+i≤j∧j<p+i+I.length then I[j-(p+i)]? else C[j]?:=by
 intro I
 induction I with
 | nil =>
  intro i w b p C e J hb _ _ _
  refine ⟨C,?_,rfl,fun j=>by simp; omega⟩
  have:World.setRow w b C e J=w:=by
   unfold World.setRow
   congr 1
   apply pH
   intro k
   rw [mc]
   obtain ⟨bC,oM⟩:=Array.getElem?_eq_some_iff.1 hb
   by_cases hk:b=k
   ·subst hk; simp [bC,oM]
   ·simp [hk]
  simp [storeCells,this]
 | cons v I ih =>
  intro i w b p C e J hb hf hl ho
  have bC:b<w.heap.size:=(Array.getElem?_eq_some_iff.1 hb).1
  simp only [aH] at hl
  have tH:w.cell? ⟨b,p+i,none⟩=some (C[p+i]'(by omega)):=by
   simp [World.cell?,hb]
  have Y5:w.frozen? ⟨b,p+i,none⟩=false:=by
   have:=hf (p+i) (by omega)
   simp only [World.frozen?,hb]
   simpa using this
  have ql:(store (Addr.add ⟨b,p,none⟩ i) v).run P w=.ok () (World.setRow w b (C.setIfInBounds (p+i) v) e J):=by
   rw [Addr.add_lit,run_store P w _ v _ (ho v (by simp)),tH]
   simp only [Y5,dW,bG]
   rw [GU hb]
  obtain ⟨C',h1,h2,h3⟩:=ih (i+1) (World.setRow w b (C.setIfInBounds (p+i) v) e J) b p (C.setIfInBounds (p+i) v) e J
   (by rw [gK bC]; simp) (by simpa using hf) (by simp; omega) (fun x hx=>ho x (by simp [hx]))
  refine ⟨C',?_,by simpa using h2,fun j => ?_⟩
  ·simp only [storeCells,Sem.run_bind,ql,Result.andThen_ok,h1,setRow_setRow]
  ·rw [h3 j]
   by_cases hj:j=p+i
   ·subst hj
    have e1:¬ (p+(i+1)≤p+i∧p+i<p+(i+1)+I.length):=by omega
    have e2:p+i≤p+i∧p+i<p+i+(v::I).length:=by simp
    rw [ah e1,aq e2]
    have:p+i<C.size:=by omega
    simp [this]
   ·by_cases S6:p+(i+1)≤j∧j<p+(i+1)+I.length
    ·have e2:p+i≤j∧j<p+i+(v::I).length:=by simp; omega
     rw [aq S6,aq e2]
     have:j-(p+i)=(j-(p+(i+1)))+1:=by omega
     rw [this]; simp
    ·have e2:¬ (p+i≤j∧j<p+i+(v::I).length):=by simp; omega
     rw [ah S6,ah e2]
     simp [iM hj]
theorem Af {v:V}(h:storable v=true): (conc c v).oneCell'=true:=by
 cases v with
 | sl id off len cap=>cases cap <;> simp [conc,Value.oneCell']
 | agg l=>simp [storable] at h
 | aY l=>simp [storable] at h
 | _=>simp [conc,Value.oneCell']
theorem FzOk.clear {I:Nat×Nat}{n:Nat}(h:FzOk false I n): ∀j,j<n→¬ (I.1≤j∧j<I.2):=by
 intro j J
 simp [FzOk] at h; subst h; simp
theorem bV (h:H)(id:Nat)(o:Option Obj)(j:Nat): (h.put id o).tr.get j=if j=id then o else h.tr.get j:=by
 simp [H.put,aP]
theorem fA (h:H)(o:Obj)(j:Nat): (h.new o).tr.get j=if j=h.next then some o else h.tr.get j:=by
 simp [H.new,aP]
theorem nh {b:Nat}{C C':Array Value}{e:TypeId}{fz o_:Nat×Nat}(J:w.heap[b]?=some (.cells C e fz))(hs:C'.size=C.size)(i:Nat):
  rowSize (World.setRow w b C' e o_) i=rowSize w i:=by
 have I:b<w.heap.size:=(Array.getElem?_eq_some_iff.1 J).1
 unfold rowSize
 rw [gK I]
 by_cases hi:b=i
 ·subst hi; simp [J,hs]
 ·simp [hi]
theorem Rel.HW {id n:Nat}{cs cs':List V}{st':Bool}{C C':Array Value}{e:TypeId}{fz o_:Nat×Nat}(h:Rel c σ w)(hg:σ.tr.get id=some (.cells n cs false))
 (hb:w.heap[(c.ρ id).1]?=some (.cells C e fz))(hs:C'.size=C.size)(hl:n=cs'.length)(iS:∀v∈cs',wf c v∧storable v=true)
 (hv:∀j v,cs'[j]?=some v→C'[(c.ρ id).2+j]?=some (conc c v))(I9:FzOk st' o_ C.size):
  Rel c (σ.put id (some (.cells n cs' st'))) (World.setRow w (c.ρ id).1 C' e o_)∧cF c w c (World.setRow w (c.ρ id).1 C' e o_):=by
 have bC:(c.ρ id).1<w.heap.size:=(Array.getElem?_eq_some_iff.1 hb).1
 have hX:=h.w5 hg (by intro _ _ he; cases he)
 obtain ⟨hn,hw,aaj,S7,Y6,S8,hle,hc,_⟩:=h.obj id _ hg
 rw [hb] at S8
 simp only [ak,Go.Obj.cells.injEq] at S8
 obtain ⟨rfl,rfl,rfl⟩:=S8
 refine ⟨⟨h.next,fun j o I => ?_,fun j I=>by simpa [World.setRow] using h.kP j I,fun j I=>by rw [nh hb hs]; exact h.zz j I,fun i j o o' hi I he => ?_,fun j o I => ?_,fun j og mN I hx => ?_,fun j o I hx => ?_⟩,
  ⟨Ext.refl c,by simp [World.setRow],fun b _=>nh hb hs b,fun b _ hn => ?_,fun j h1 h2=>by omega,rfl,rfl⟩⟩
 ·rw [bV] at I
  by_cases J:j=id
  ·subst J; exact h.live j _ hg
  ·simp [J] at I; exact h.live j o I
 ·rw [bV] at hi I
  have oN:∃o,σ.tr.get i=some o:=by
   by_cases kj:i=id
   ·subst kj; exact ⟨_,hg⟩
   ·simp [kj] at hi; exact ⟨_,hi⟩
  have oO:∃o,σ.tr.get j=some o:=by
   by_cases kj:j=id
   ·subst kj; exact ⟨_,hg⟩
   ·simp [kj] at I; exact ⟨_,I⟩
  obtain ⟨_,oN⟩:=oN
  obtain ⟨_,oO⟩:=oO
  exact h.inj i j _ _ oN oO he
 ·rw [bV] at I
  by_cases J:j=id
  ·subst J
   simp at I
   subst I
   exact ⟨hl,iS,C',e,o_,by rw [gK bC]; simp,by rw [hs]; exact hle,hv,by rw [hs]; exact I9⟩
  ·simp [J] at I
   have dz:(c.ρ id).1≠(c.ρ j).1:=fun he=>J (h.vF I hg he.symm hX)
   have:=h.obj j o I
   cases o with
   | cells n' w8 st' =>
    obtain ⟨a1,a2,D,e',o_,a3,a4⟩:=this
    exact ⟨a1,a2,D,e',o_,by rw [gK bC]; simpa [dz] using a3,a4⟩
   | map es clock=>exact ⟨this.1,by rw [gK bC]; simpa [dz] using this.2⟩
   | loop busy ax env ps as bd =>
    obtain ⟨fn,tmps,D,b1,b2⟩:=this
    exact ⟨fn,tmps,D,by rw [gK bC]; simpa [dz] using b1,b2⟩
   | iter mid since last seen=>exact ⟨this.1,this.2.1,by rw [gK bC]; simpa [dz] using this.2.2⟩
   | jI l pos=>exact ⟨this.1,this.2.1,by rw [gK bC]; simpa [dz] using this.2.2⟩
 ·rw [bV] at I
  by_cases J:j=id
  ·subst J
   simp at I
   rw [I.1] at hg
   exact h.one j _ _ hg hx
  ·simp [J] at I
   exact h.one j og mN I hx
 ·rw [bV] at I
  by_cases J:j=id
  ·rw [J,hX] at hx; cases hx
  ·simp [J] at I; exact h.fx j o I hx
 ·rw [gK bC]
  have:(c.ρ id).1≠b:=fun he=>by have:=hn id (h.live id _ hg) he; rw [hX] at this; cases this
  simp [this]
theorem Rel.setRow {id n:Nat}{cs cs':List V}{C C':Array Value}{e:TypeId}{J:Nat×Nat}(h:Rel c σ w)(hg:σ.tr.get id=some (.cells n cs false))
 (hb:w.heap[(c.ρ id).1]?=some (.cells C e J))(hs:C'.size=C.size)(hl:n=cs'.length)(iS:∀v∈cs',wf c v∧storable v=true)
 (hv:∀j v,cs'[j]?=some v→C'[(c.ρ id).2+j]?=some (conc c v)):
  Rel c (σ.put id (some (.cells n cs' false))) (World.setRow w (c.ρ id).1 C' e J)∧cF c w c (World.setRow w (c.ρ id).1 C' e J):=by
 refine h.HW hg hb hs hl iS hv ?_
 obtain ⟨_,_,aaj,S7,Y6,I,_,_,u7⟩:=h.obj id _ hg
 rw [hb] at I
 simp only [ak,Go.Obj.cells.injEq] at I
 obtain ⟨rfl,rfl,rfl⟩:=I
 exact u7
theorem w9 {id off:Nat}{I:List V}{eL:H}(h:Rel c σ w)(J:wrN σ id off I=some eL)(iS:∀v∈I,wf c v∧storable v=true):
  ∃w',(storeCells (eX c id off) (I.map (conc c))).run P w=.ok () w'∧Rel c eL w'∧cF c w c w':=by
 unfold wrN at J
 split at J
 ·rename_i n cs hg
  obtain ⟨hn,hw,C,e,fz,hb,hle,hc,u7⟩:=h.obj id _ hg
  cases hq:Nat.ble (off+I.length) n with
  | false=>simp [hq] at J
  | true =>
   have S9:=aF.1 hq
   simp only [hq,ag,ak] at J
   have lI:(cond (Nat.beq off 0&&Nat.beq I.length n) I (cs.take off++(I++cs.drop (off+I.length))))=cs.take off++(I++cs.drop (off+I.length)):=by
    cases nC:(Nat.beq off 0&&Nat.beq I.length n) with
    | false=>rfl
    | true =>
     simp only [aJ] at nC
     have h0:=beq_iff.1 nC.1
     have h1:=beq_iff.1 nC.2
     subst h0
     simp [h1,hn]
   rw [lI] at J
   subst J
   obtain ⟨C',h1,h2,h3⟩:=u6 (P:=P) (I.map (conc c)) 0 w (c.ρ id).1 ((c.ρ id).2+off) C e fz hb u7.clear (by simp; omega)
    (by simp only [m_]; rintro _ ⟨v,hv,rfl⟩; exact Af (iS v hv).2)
   refine ⟨_,h1,?_⟩
   refine h.setRow hg hb h2 (by simp; omega) ?_ ?_
   ·intro v hv
    simp only [pK] at hv
    rcases hv with hv | hv | hv
    ·exact hw v (je hv)
    ·exact iS v hv
    ·exact hw v (iH hv)
   ·intro j v hv
    rw [h3]
    by_cases h4:j<off
    ·rw [iF (by simp; omega),kX,aq h4] at hv
     rw [ah (by omega)]
     exact hc j v hv
    ·rw [me (by simp; omega)] at hv
     have hlen:(cs.take off).length=off:=by simp; omega
     rw [hlen] at hv
     by_cases h5:j<off+I.length
     ·rw [iF (by omega)] at hv
      rw [aq (by simp; omega)]
      rw [m8,show (c.ρ id).2+j-((c.ρ id).2+off+0)=j-off from by omega,hv]
      rfl
     ·rw [me (by omega),jH] at hv
      rw [ah (by simp; omega)]
      refine hc j v ?_
      rw [←hv]; congr 1; omega
 ·simp at J
theorem KJ {t:TypeId}{a v:V}{J:H}(h:Rel c σ w)(I:fK P σ t a v=some J)(hv:wf c v):
  ∃w',(Instr.storeAt t (conc c a) (conc c v)).run P w=.ok () w'∧Rel c J w'∧cF c w c w':=by
 unfold fK at I
 split at I
 ·rename_i id off
  split at I
  ·rename_i k hk
   cases hq:(Nat.beq v.cells.length k&&v.cells.all storable) with
   | false=>simp [hq] at I
   | true =>
    simp only [hq,ag] at I
    simp only [aJ] at hq
    have hlen:=beq_iff.1 hq.1
    obtain ⟨w',h1,h2,h3⟩:=w9 (P:=P) h I (fun x hx=>⟨jm hv x hx,(List.all_eq_true.1 hq.2) x hx⟩)
    refine ⟨w',?_,h2,h3⟩
    have ha:conc c (.ptr id off)=.pointer (some (eX c id off)):=by simp [conc,eX]
    rw [ha]
    simp only [Instr.storeAt,Instr.sureAddr,pure_bind,storeVar,Sem.run_bind,cC hk,Result.andThen_ok]
    have:(conc c v).cells.size=k:=by rw [fy]; simpa using hlen
    simp [this,vG,h1]
  ·simp at I
 ·simp at I
def Ctx.grow (c:Ctx)(b base size:Nat): Ctx:=⟨fun i=>if i=c.N then (b,base) else c.ρ i,fun x=>if x=b then size else c.Z x,c.N+1,fun i=>if i=c.N then false else c.X i⟩
theorem kn (c:Ctx)(b base size:Nat): (c.grow b base size).N=c.N+1:=rfl
theorem bh (c:Ctx)(b base size:Nat): (c.grow b base size).ρ c.N=(b,base):=by simp [Ctx.grow]
theorem cQ (c:Ctx)(b base size:Nat){i:Nat}(h:i<c.N): (c.grow b base size).ρ i=c.ρ i:=by
 simp [Ctx.grow,iJ h]
theorem vH (c:Ctx)(b base size:Nat): (c.grow b base size).X c.N=false:=by simp [Ctx.grow]
theorem fH (c:Ctx)(b base size:Nat){i:Nat}(h:i<c.N): (c.grow b base size).X i=c.X i:=by
 simp [Ctx.grow,iJ h]
theorem gX (w:World)(o:Go.Obj)(i:Nat): (w.alloc o).heap[i]?=if i=w.heap.size then some o else w.heap[i]?:=by
 simp only [World.alloc,Ce]
 try rfl
def objSize : Go.Obj→Nat
 | .cells C _ _=>C.size
 | _=>0
theorem kS (w:World)(o:Go.Obj){b:Nat}(h:b<w.heap.size): rowSize (w.alloc o) b=rowSize w b:=by
 unfold rowSize; rw [gX]; simp [iJ h]
theorem Ad (w:World)(o:Go.Obj): rowSize (w.alloc o) w.heap.size=objSize o:=by
 unfold rowSize; rw [gX]; simp; cases o <;> rfl
theorem EM (h:Rel c σ w)(base size:Nat): Ext c (c.grow w.heap.size base size) :=
 ⟨by simp [Ctx.grow],fun id hi=>cQ c _ _ _ hi,fun id hi=>by
  have:=h.kP id hi
  simp [Ctx.grow,iJ this],fun id hi=>fH c _ _ _ hi⟩
theorem A1.later {c':Ctx}{w':World}(e:Ext c c'){id:Nat}{o:Obj}(I:id<c.N)(J:w'.heap[(c.ρ id).1]?=w.heap[(c.ρ id).1]?)(h:A1 c w id o): A1 c' w' id o:=by
 cases o with
 | cells n cs st =>
  obtain ⟨a1,a2,C,el,fz,a3,a4,a5,a6⟩:=h
  refine ⟨a1,fun v hv=>⟨(b_ e v (a2 v hv).1).2,(a2 v hv).2⟩,C,el,fz,by rw [e.ρ id I,J,a3],by rw [e.ρ id I]; exact a4,fun j v hv => ?_,a6⟩
  rw [e.ρ id I,(b_ e v (a2 v (a_ hv)).1).1]
  exact a5 j v hv
 | map es clock =>
  refine ⟨fun x hx=>⟨(b_ e _ (h.1 x hx).1).2,(b_ e _ (h.1 x hx).2).2⟩,?_⟩
  rw [e.ρ id I,J,h.2]
  congr 2
  congr 1
  refine nZ fun x hx => ?_
  simp only [bY,(b_ e _ (h.1 x hx).1).1,(b_ e _ (h.1 x hx).2).1]
 | loop busy ax env ps as bd =>
  obtain ⟨fn,tmps,D,b1,b2,b3,b4⟩:=h
  exact ⟨fn,tmps,D,by rw [e.ρ id I,J]; exact b1,b2,fun t=>by rw [b3 t,(b_ e _ (b4 t)).1],fun t=>(b_ e _ (b4 t)).2⟩
 | iter mid since last seen=>exact ⟨ie h.1 e.le,by rw [e.ρ id I]; exact h.2.1,by rw [e.ρ id I,J,e.ρ mid h.1]; exact h.2.2⟩
 | jI l pos=>exact ⟨h.1,by rw [e.ρ id I]; exact h.2.1,by rw [e.ρ id I,J]; exact h.2.2⟩
theorem Rel.new (h:Rel c σ w)(o:Obj)(O:Go.Obj)(base:Nat)(u9:base=0)(ho:A1 (c.grow w.heap.size base (objSize O)) (w.alloc O) c.N o):
  Rel (c.grow w.heap.size base (objSize O)) (σ.new o) (w.alloc O)∧cF c w (c.grow w.heap.size base (objSize O)) (w.alloc O):=by
 have e:=EM h base (objSize O)
 have hold:∀id o,σ.tr.get id=some o→id<c.N:=h.live
 refine ⟨⟨by simp [H.new,Ctx.grow,h.next],fun id o' hi => ?_,fun id hi => ?_,fun id hi => ?_,fun i j Q1 Nu hi hj he => ?_,fun id o' hi => ?_,fun id og mN hi hx => ?_,fun id o' hi hx => ?_⟩,
  ⟨e,by simp,fun b hb=>kS w O hb,fun b hb _=>by rw [gX]; simp [iJ hb],fun id h1 h2 => ?_,rfl,rfl⟩⟩
 ·rw [fA] at hi
  by_cases I:id=σ.next
  ·rw [I,h.next]; simp [Ctx.grow]
  ·simp [I] at hi; exact ie (hold id o' hi) (by simp [Ctx.grow])
 ·simp only [kn] at hi
  by_cases I:id=c.N
  ·subst I; rw [bh]; simp
  ·rw [cQ c _ _ _ (by omega)]
   have:=h.kP id (by omega)
   simp; omega
 ·simp only [kn] at hi
  by_cases I:id=c.N
  ·subst I; rw [bh,Ad]; simp [Ctx.grow]
  ·have J:id<c.N:=by omega
   have hb:=h.kP id J
   rw [cQ c _ _ _ J,kS w O hb,←h.zz id J]
   simp [Ctx.grow,iJ hb]
 ·rw [fA] at hi hj
  have key:∀i o',(if i=σ.next then some o else σ.tr.get i)=some o'→(i=c.N∧((c.grow w.heap.size base (objSize O)).ρ i).1=w.heap.size)∨(i<c.N∧(∃S_,σ.tr.get i=some S_)∧((c.grow w.heap.size base (objSize O)).ρ i).1=(c.ρ i).1∧(c.ρ i).1<w.heap.size):=by
   intro i o' hi
   by_cases I:i=σ.next
   ·left; rw [I,h.next,bh]; simp
   ·simp [I] at hi
    right
    have:=hold i o' hi
    exact ⟨this,⟨o',hi⟩,by rw [cQ c _ _ _ this],h.kP i this⟩
  rcases key i Q1 hi with ⟨a1,a2⟩ | ⟨a1,⟨_,a2⟩,a3,a4⟩ <;> rcases key j Nu hj with ⟨b1,b2⟩ | ⟨b1,⟨_,b2⟩,b3,b4⟩
  ·exact .inl (by omega)
  ·omega
  ·omega
  ·rw [fH c _ _ _ a1,fH c _ _ _ b1]; exact h.inj i j _ _ a2 b2 (by rw [←a3,←b3,he])
 ·rw [fA] at hi
  by_cases I:id=σ.next
  ·simp [I] at hi
   subst hi
   rw [I,h.next]
   exact ho
  ·simp [I] at hi
   have J:=hold id o' hi
   exact (h.obj id o' hi).later e J (by rw [gX]; simp [iJ (h.kP id J)])
 ·rw [fA] at hi
  by_cases I:id=σ.next
  ·rw [I,h.next,bh]; exact u9
  ·simp [I] at hi
   rw [fH c _ _ _ (hold id _ hi)] at hx
   rw [cQ c _ _ _ (hold id _ hi)]; exact h.one id og mN hi hx
 ·rw [fA] at hi
  by_cases I:id=σ.next
  ·rw [I,h.next,vH] at hx; cases hx
  ·simp [I] at hi
   rw [fH c _ _ _ (hold id _ hi)] at hx
   exact h.fx id o' hi hx
 ·simp only [kn] at h2
  have:id=c.N:=by omega
  subst this
  left; rw [bh]; exact aD _
theorem Rel.newRow {cs:List V}(h:Rel c σ w)(I:∀v∈cs,wf c v∧storable v=true)(e:TypeId)(more:List Value):
  Rel (c.grow w.heap.size 0 (cs.length+more.length)) (σ.new (.cells cs.length cs false)) (w.alloc (.cells (cs.map (conc c)++more).toArray e)) ∧
  cF c w (c.grow w.heap.size 0 (cs.length+more.length)) (w.alloc (.cells (cs.map (conc c)++more).toArray e)):=by
 have J:objSize (.cells (cs.map (conc c)++more).toArray e)=cs.length+more.length:=by simp [objSize]
 have:=h.new (.cells cs.length cs false) (.cells (cs.map (conc c)++more).toArray e) 0 rfl ?_
 ·rw [J] at this; exact this
 ·rw [J]
  have ex:=EM h 0 (cs.length+more.length)
  refine ⟨rfl,fun v hv=>⟨(b_ ex v (I v hv).1).2,(I v hv).2⟩,(cs.map (conc c)++more).toArray,e,(0,0),by rw [bh,gX]; simp,by rw [bh]; simp,fun j v hv => ?_,rfl⟩
  rw [bh]
  obtain ⟨hj,Ae⟩:=List.getElem?_eq_some_iff.1 hv
  rw [(b_ ex v (I v (a_ hv)).1).1]
  simp [iF,hj,Ae]
theorem Rel.kill (h:Rel c σ w)(id:Nat): Rel c (σ.put id none) w:=by
 refine ⟨h.next,fun j o I => ?_,h.kP,h.zz,fun i j o o' hi I he => ?_,fun j o I => ?_,fun j og mN I hx => ?_,fun j o I hx => ?_⟩
 ·rw [bV] at I
  by_cases J:j=id
  ·simp [J] at I
  ·simp [J] at I; exact h.live j o I
 ·rw [bV] at hi I
  by_cases h1:i=id
  ·simp [h1] at hi
  ·by_cases h2:j=id
   ·simp [h2] at I
   ·simp [h1] at hi; simp [h2] at I; exact h.inj i j o o' hi I he
 ·rw [bV] at I
  by_cases J:j=id
  ·simp [J] at I
  ·simp [J] at I; exact h.obj j o I
 ·rw [bV] at I
  by_cases J:j=id
  ·simp [J] at I
  ·simp [J] at I; exact h.one j og mN I hx
 ·rw [bV] at I
  by_cases J:j=id
  ·simp [J] at I
  ·simp [J] at I; exact h.fx j o I hx
theorem Rel.sC {id:Nat}{es es':List (V×V×Nat)}{k k':Nat}(h:Rel c σ w)(hg:σ.tr.get id=some (.map es k))(iS:∀x∈es',wf c x.1∧wf c x.2.1):
  Rel c (σ.put id (some (.map es' k'))) { w with heap:=w.heap.setIfInBounds (c.ρ id).1 (.map (es'.map (bY c)).toArray k') } ∧
  cF c w c { w with heap:=w.heap.setIfInBounds (c.ρ id).1 (.map (es'.map (bY c)).toArray k') }:=by
 obtain ⟨hw,hb⟩:=h.obj id _ hg
 have bC:(c.ρ id).1<w.heap.size:=(Array.getElem?_eq_some_iff.1 hb).1
 have hX:=h.w5 hg (by intro _ _ he; cases he)
 have get:∀i,({ w with heap:=w.heap.setIfInBounds (c.ρ id).1 (.map (es'.map (bY c)).toArray k') }:World).heap[i]?=if (c.ρ id).1=i then some (.map (es'.map (bY c)).toArray k') else w.heap[i]?:=by
  intro i; simp only [mc,bC,bE]
 have rows:∀i,rowSize { w with heap:=w.heap.setIfInBounds (c.ρ id).1 (.map (es'.map (bY c)).toArray k') } i=rowSize w i:=by
  intro i
  unfold rowSize
  rw [get]
  by_cases hi:(c.ρ id).1=i
  ·subst hi; simp [hb]
  ·simp [hi]
 refine ⟨⟨h.next,fun j o I => ?_,fun j I=>by simpa using h.kP j I,fun j I=>by rw [rows]; exact h.zz j I,fun i j o o' hi I he => ?_,fun j o I => ?_,fun j og mN I hx => ?_,fun j o I hx => ?_⟩,
  ⟨Ext.refl c,by simp,fun b _=>rows b,fun b _ hn => ?_,fun j h1 h2=>by omega,rfl,rfl⟩⟩
 ·rw [bV] at I
  by_cases J:j=id
  ·subst J; exact h.live j _ hg
  ·simp [J] at I; exact h.live j o I
 ·rw [bV] at hi I
  have oN:∃o,σ.tr.get i=some o:=by
   by_cases kj:i=id
   ·subst kj; exact ⟨_,hg⟩
   ·simp [kj] at hi; exact ⟨_,hi⟩
  have oO:∃o,σ.tr.get j=some o:=by
   by_cases kj:j=id
   ·subst kj; exact ⟨_,hg⟩
   ·simp [kj] at I; exact ⟨_,I⟩
  obtain ⟨_,oN⟩:=oN
  obtain ⟨_,oO⟩:=oO
  exact h.inj i j _ _ oN oO he
 ·rw [bV] at I
  by_cases J:j=id
  ·subst J
   simp at I
   subst I
   exact ⟨iS,by rw [get]; simp⟩
  ·simp [J] at I
   have dz:(c.ρ id).1≠(c.ρ j).1:=fun he=>J (h.vF I hg he.symm hX)
   have:=h.obj j o I
   cases o with
   | cells n' w8 st' =>
    obtain ⟨a1,a2,D,e',o_,a3,a4⟩:=this
    exact ⟨a1,a2,D,e',o_,by rw [get]; simpa [dz] using a3,a4⟩
   | map es clock=>exact ⟨this.1,by rw [get]; simpa [dz] using this.2⟩
   | loop busy ax env ps as bd =>
    obtain ⟨fn,tmps,D,b1,b2⟩:=this
    exact ⟨fn,tmps,D,by rw [get]; simpa [dz] using b1,b2⟩
   | iter mid since last seen=>exact ⟨this.1,this.2.1,by rw [get]; simpa [dz] using this.2.2⟩
   | jI l pos=>exact ⟨this.1,this.2.1,by rw [get]; simpa [dz] using this.2.2⟩
 ·rw [bV] at I
  by_cases J:j=id
  ·simp [J] at I
  ·simp [J] at I; exact h.one j og mN I hx
 ·rw [bV] at I
  by_cases J:j=id
  ·rw [J,hX] at hx; cases hx
  ·simp [J] at I; exact h.fx j o I hx
 ·rw [get]
  have:(c.ρ id).1≠b:=fun he=>by have:=hn id (h.live id _ hg) he; rw [hX] at this; cases this
  simp [this]
theorem Rel.HX {id ax:Nat}{busy tI:Bool}{env:Env}{ps:List Nat}{as bd:Code}{fn D:Nat}{tmps:Array Value}(h:Rel c σ w)(hg:σ.tr.get id=some (.loop busy ax env ps as bd))
 (hb:w.heap[(c.ρ id).1]?=some (.loop ⟨cond busy .busy .ready,none,fn,tmps,ps.toArray,as,bd,D⟩))(iS:tmps.size=ax∧(∀t,tmps.getD t undef=conc c (Env.v env t))∧(∀t,wf c (Env.v env t))):
  Rel c (σ.put id (some (.loop tI ax env ps as bd))) { w with heap:=w.heap.setIfInBounds (c.ρ id).1 (.loop ⟨cond tI .busy .ready,none,fn,tmps,ps.toArray,as,bd,D⟩) } ∧
  cF c w c { w with heap:=w.heap.setIfInBounds (c.ρ id).1 (.loop ⟨cond tI .busy .ready,none,fn,tmps,ps.toArray,as,bd,D⟩) }:=by
 have bC:(c.ρ id).1<w.heap.size:=(Array.getElem?_eq_some_iff.1 hb).1
 have hX:=h.w5 hg (by intro _ _ he; cases he)
 have get:∀i,({ w with heap:=w.heap.setIfInBounds (c.ρ id).1 (.loop ⟨cond tI .busy .ready,none,fn,tmps,ps.toArray,as,bd,D⟩) }:World).heap[i]?=if (c.ρ id).1=i then some (.loop ⟨cond tI .busy .ready,none,fn,tmps,ps.toArray,as,bd,D⟩) else w.heap[i]?:=by
  intro i; simp only [mc,bC,bE]
 have rows:∀i,rowSize { w with heap:=w.heap.setIfInBounds (c.ρ id).1 (.loop ⟨cond tI .busy .ready,none,fn,tmps,ps.toArray,as,bd,D⟩) } i=rowSize w i:=by
  intro i
  unfold rowSize
  rw [get]
  by_cases hi:(c.ρ id).1=i
  ·subst hi; simp [hb]
  ·simp [hi]
 refine ⟨⟨h.next,fun j o I => ?_,fun j I=>by simpa using h.kP j I,fun j I=>by rw [rows]; exact h.zz j I,fun i j o o' hi I he => ?_,fun j o I => ?_,fun j og mN I hx => ?_,fun j o I hx => ?_⟩,
  ⟨Ext.refl c,by simp,fun b _=>rows b,fun b _ hn => ?_,fun j h1 h2=>by omega,rfl,rfl⟩⟩
 ·rw [bV] at I
  by_cases J:j=id
  ·subst J; exact h.live j _ hg
  ·simp [J] at I; exact h.live j o I
 ·rw [bV] at hi I
  have oN:∃o,σ.tr.get i=some o:=by
   by_cases kj:i=id
   ·subst kj; exact ⟨_,hg⟩
   ·simp [kj] at hi; exact ⟨_,hi⟩
  have oO:∃o,σ.tr.get j=some o:=by
   by_cases kj:j=id
   ·subst kj; exact ⟨_,hg⟩
   ·simp [kj] at I; exact ⟨_,I⟩
  obtain ⟨_,oN⟩:=oN
  obtain ⟨_,oO⟩:=oO
  exact h.inj i j _ _ oN oO he
 ·rw [bV] at I
  by_cases J:j=id
  ·subst J
   simp at I
   subst I
   exact ⟨fn,tmps,D,by rw [get]; simp,iS⟩
  ·simp [J] at I
   have dz:(c.ρ id).1≠(c.ρ j).1:=fun he=>J (h.vF I hg he.symm hX)
   have:=h.obj j o I
   cases o with
   | cells n' w8 st' =>
    obtain ⟨a1,a2,D,e',o_,a3,a4⟩:=this
    exact ⟨a1,a2,D,e',o_,by rw [get]; simpa [dz] using a3,a4⟩
   | map es clock=>exact ⟨this.1,by rw [get]; simpa [dz] using this.2⟩
   | loop busy ax env ps as bd =>
    obtain ⟨fn,tmps,D,b1,b2⟩:=this
    exact ⟨fn,tmps,D,by rw [get]; simpa [dz] using b1,b2⟩
   | iter mid since last seen=>exact ⟨this.1,this.2.1,by rw [get]; simpa [dz] using this.2.2⟩
   | jI l pos=>exact ⟨this.1,this.2.1,by rw [get]; simpa [dz] using this.2.2⟩
 ·rw [bV] at I
  by_cases J:j=id
  ·simp [J] at I
  ·simp [J] at I; exact h.one j og mN I hx
 ·rw [bV] at I
  by_cases J:j=id
  ·rw [J,hX] at hx; cases hx
  ·simp [J] at I; exact h.fx j o I hx
 ·rw [get]
  have:(c.ρ id).1≠b:=fun he=>by have:=hn id (h.live id _ hg) he; rw [hX] at this; cases this
  simp [this]
theorem Rel.setIter {id mid since last last':Nat}{seen seen':List Nat}(h:Rel c σ w)(hg:σ.tr.get id=some (.iter mid since last seen)):
  Rel c (σ.put id (some (.iter mid since last' seen'))) { w with heap:=w.heap.setIfInBounds (c.ρ id).1 (.mapIter (some (c.ρ mid).1) since seen'.toArray last') } ∧
  cF c w c { w with heap:=w.heap.setIfInBounds (c.ρ id).1 (.mapIter (some (c.ρ mid).1) since seen'.toArray last') }:=by
 obtain ⟨EN,tJ,hb⟩:=h.obj id _ hg
 have bC:(c.ρ id).1<w.heap.size:=(Array.getElem?_eq_some_iff.1 hb).1
 have hX:=h.w5 hg (by intro _ _ he; cases he)
 have get:∀i,({ w with heap:=w.heap.setIfInBounds (c.ρ id).1 (.mapIter (some (c.ρ mid).1) since seen'.toArray last') }:World).heap[i]?=if (c.ρ id).1=i then some (.mapIter (some (c.ρ mid).1) since seen'.toArray last') else w.heap[i]?:=by
  intro i; simp only [mc,bC,bE]
 have rows:∀i,rowSize { w with heap:=w.heap.setIfInBounds (c.ρ id).1 (.mapIter (some (c.ρ mid).1) since seen'.toArray last') } i=rowSize w i:=by
  intro i
  unfold rowSize
  rw [get]
  by_cases hi:(c.ρ id).1=i
  ·subst hi; simp [hb]
  ·simp [hi]
 refine ⟨⟨h.next,fun j o I => ?_,fun j I=>by simpa using h.kP j I,fun j I=>by rw [rows]; exact h.zz j I,fun i j o o' hi I he => ?_,fun j o I => ?_,fun j og mN I hx => ?_,fun j o I hx => ?_⟩,
  ⟨Ext.refl c,by simp,fun b _=>rows b,fun b _ hn => ?_,fun j h1 h2=>by omega,rfl,rfl⟩⟩
 ·rw [bV] at I
  by_cases J:j=id
  ·subst J; exact h.live j _ hg
  ·simp [J] at I; exact h.live j o I
 ·rw [bV] at hi I
  have oN:∃o,σ.tr.get i=some o:=by
   by_cases kj:i=id
   ·subst kj; exact ⟨_,hg⟩
   ·simp [kj] at hi; exact ⟨_,hi⟩
  have oO:∃o,σ.tr.get j=some o:=by
   by_cases kj:j=id
   ·subst kj; exact ⟨_,hg⟩
   ·simp [kj] at I; exact ⟨_,I⟩
  obtain ⟨_,oN⟩:=oN
  obtain ⟨_,oO⟩:=oO
  exact h.inj i j _ _ oN oO he
 ·rw [bV] at I
  by_cases J:j=id
  ·subst J
   simp at I
   subst I
   exact ⟨EN,tJ,by rw [get]; simp⟩
  ·simp [J] at I
   have dz:(c.ρ id).1≠(c.ρ j).1:=fun he=>J (h.vF I hg he.symm hX)
   have:=h.obj j o I
   cases o with
   | cells n' w8 st' =>
    obtain ⟨a1,a2,D,e',o_,a3,a4⟩:=this
    exact ⟨a1,a2,D,e',o_,by rw [get]; simpa [dz] using a3,a4⟩
   | map es clock=>exact ⟨this.1,by rw [get]; simpa [dz] using this.2⟩
   | loop busy ax env ps as bd =>
    obtain ⟨fn,tmps,D,b1,b2⟩:=this
    exact ⟨fn,tmps,D,by rw [get]; simpa [dz] using b1,b2⟩
   | iter mid since last seen=>exact ⟨this.1,this.2.1,by rw [get]; simpa [dz] using this.2.2⟩
   | jI l pos=>exact ⟨this.1,this.2.1,by rw [get]; simpa [dz] using this.2.2⟩
 ·rw [bV] at I
  by_cases J:j=id
  ·simp [J] at I
  ·simp [J] at I; exact h.one j og mN I hx
 ·rw [bV] at I
  by_cases J:j=id
  ·rw [J,hX] at hx; cases hx
  ·simp [J] at I; exact h.fx j o I hx
 ·rw [get]
  have:(c.ρ id).1≠b:=fun he=>by have:=hn id (h.live id _ hg) he; rw [hX] at this; cases this
  simp [this]
theorem Rel.Ta {id pos pos':Nat}{l:List Nat}(h:Rel c σ w)(hg:σ.tr.get id=some (.jI l pos)):
  Rel c (σ.put id (some (.jI l pos'))) { w with heap:=w.heap.setIfInBounds (c.ρ id).1 (.stringIter ⟨(l.map UInt8.ofNat).toArray⟩ pos') } ∧
  cF c w c { w with heap:=w.heap.setIfInBounds (c.ρ id).1 (.stringIter ⟨(l.map UInt8.ofNat).toArray⟩ pos') }:=by
 obtain ⟨EN,tJ,hb⟩:=h.obj id _ hg
 have bC:(c.ρ id).1<w.heap.size:=(Array.getElem?_eq_some_iff.1 hb).1
 have hX:=h.w5 hg (by intro _ _ he; cases he)
 have get:∀i,({ w with heap:=w.heap.setIfInBounds (c.ρ id).1 (.stringIter ⟨(l.map UInt8.ofNat).toArray⟩ pos') }:World).heap[i]?=if (c.ρ id).1=i then some (.stringIter ⟨(l.map UInt8.ofNat).toArray⟩ pos') else w.heap[i]?:=by
  intro i; simp only [mc,bC,bE]
 have rows:∀i,rowSize { w with heap:=w.heap.setIfInBounds (c.ρ id).1 (.stringIter ⟨(l.map UInt8.ofNat).toArray⟩ pos') } i=rowSize w i:=by
  intro i
  unfold rowSize
  rw [get]
  by_cases hi:(c.ρ id).1=i
  ·subst hi; simp [hb]
  ·simp [hi]
 refine ⟨⟨h.next,fun j o I => ?_,fun j I=>by simpa using h.kP j I,fun j I=>by rw [rows]; exact h.zz j I,fun i j o o' hi I he => ?_,fun j o I => ?_,fun j og mN I hx => ?_,fun j o I hx => ?_⟩,
  ⟨Ext.refl c,by simp,fun b _=>rows b,fun b _ hn => ?_,fun j h1 h2=>by omega,rfl,rfl⟩⟩
 ·rw [bV] at I
  by_cases J:j=id
  ·subst J; exact h.live j _ hg
  ·simp [J] at I; exact h.live j o I
 ·rw [bV] at hi I
  have oN:∃o,σ.tr.get i=some o:=by
   by_cases kj:i=id
   ·subst kj; exact ⟨_,hg⟩
   ·simp [kj] at hi; exact ⟨_,hi⟩
  have oO:∃o,σ.tr.get j=some o:=by
   by_cases kj:j=id
   ·subst kj; exact ⟨_,hg⟩
   ·simp [kj] at I; exact ⟨_,I⟩
  obtain ⟨_,oN⟩:=oN
  obtain ⟨_,oO⟩:=oO
  exact h.inj i j _ _ oN oO he
 ·rw [bV] at I
  by_cases J:j=id
  ·subst J
   simp at I
   subst I
   exact ⟨EN,tJ,by rw [get]; simp⟩
  ·simp [J] at I
   have dz:(c.ρ id).1≠(c.ρ j).1:=fun he=>J (h.vF I hg he.symm hX)
   have:=h.obj j o I
   cases o with
   | cells n' w8 st' =>
    obtain ⟨a1,a2,D,e',o_,a3,a4⟩:=this
    exact ⟨a1,a2,D,e',o_,by rw [get]; simpa [dz] using a3,a4⟩
   | map es clock=>exact ⟨this.1,by rw [get]; simpa [dz] using this.2⟩
   | loop busy ax env ps as bd =>
    obtain ⟨fn,tmps,D,b1,b2⟩:=this
    exact ⟨fn,tmps,D,by rw [get]; simpa [dz] using b1,b2⟩
   | iter mid since last seen=>exact ⟨this.1,this.2.1,by rw [get]; simpa [dz] using this.2.2⟩
   | jI l pos=>exact ⟨this.1,this.2.1,by rw [get]; simpa [dz] using this.2.2⟩
 ·rw [bV] at I
  by_cases J:j=id
  ·simp [J] at I
  ·simp [J] at I; exact h.one j og mN I hx
 ·rw [bV] at I
  by_cases J:j=id
  ·rw [J,hX] at hx; cases hx
  ·simp [J] at I; exact h.fx j o I hx
 ·rw [get]
  have:(c.ρ id).1≠b:=fun he=>by have:=hn id (h.live id _ hg) he; rw [hX] at this; cases this
  simp [this]
theorem jz {b:Nat}{o:Go.Obj}(h:w.heap[b]?=some o)(I:∀C e f,o≠.cells C e f): (getObj b).run P w=.ok o w:=by
 simp only [getObj,Sem.run,h]
theorem ko {b:Nat}{o o':Go.Obj}(h:w.heap[b]?=some o)(I:∀C e f,o≠.cells C e f): (setObj b o').run P w=.ok () { w with heap:=w.heap.setIfInBounds b o' }:=by
 simp only [setObj,Sem.run,h]
end
end Go.Proofs.YtefepnnfphdkpaaGreat.Am
