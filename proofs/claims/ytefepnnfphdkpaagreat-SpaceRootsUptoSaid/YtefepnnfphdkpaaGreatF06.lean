/- SpaceRoots: a part of its proof; conditions: its statement's. -/
import Derived.Test.YtefepnnfphdkpaaGreatF05
namespace Go.Proofs.YtefepnnfphdkpaaGreat.Am
open Go
section
variable {P:Program} {c:Ctx} {σ:H} {w:World}
def g_ (P:Program)(s:Sem Value)(c:Ctx)(w:World)(v:V)(I:H): Prop :=
 ∃w' c',s.run P w=.ok (conc c' v) w'∧wf c' v∧Rel c' I w'∧cV c w c' w'
def Qt (P:Program)(s:Sem Unit)(c:Ctx)(w:World)(I:H): Prop :=
 ∃w' c',s.run P w=.ok () w'∧Rel c' I w'∧cV c w c' w'
theorem g_.same {s:Sem Value}{v:V}(h:Rel c σ w)(I:s.run P w=.ok (conc c v) w∧wf c v): g_ P s c w v σ :=
 ⟨w,c,I.1,I.2,h,cV.refl c w⟩
theorem sI {cs:List V}(h:Rel c σ w)(I:∀v∈cs,wf c v∧storable v=true)(e:TypeId):
  Rel (c.grow w.heap.size 0 cs.length) (newRow σ cs) (w.alloc (.cells (cs.map (conc c)).toArray e))∧cV c w (c.grow w.heap.size 0 cs.length) (w.alloc (.cells (cs.map (conc c)).toArray e)):=by
 have:=h.newRow I e []
 simpa [newRow] using this
theorem G4 (c:Ctx)(b size:Nat): conc (c.grow b 0 size) (.ptr c.N 0)=.pointer (some ⟨b,0,none⟩):=by
 simp [conc,bB]
theorem Ns {t:TypeId}{z:V}(h:Rel c σ w)(I:zeroT P t=some z):
  g_ P (Instr.alloc t true (.tuple #[])) c w (.ptr σ.next 0) (newRow σ z.cells):=by
 obtain ⟨J,z2⟩:=gD I c w
 obtain ⟨g1,g2⟩:=sI h (fun v hv=>⟨jV z2 v hv,lT I v hv⟩) t
 refine ⟨_,_,?_,?_,g1,g2⟩
 ·rw [h.next,G4]
  simp [Instr.alloc,J,newVar,Go.newRow,fT]
 ·simp [wf,h.next,kS]
theorem T9 {t:TypeId}{v:V}(h:Rel c σ w)(hv:wf c v)(hs:v.cells.all storable=true):
  g_ P (Instr.box t (conc c v)) c w (.ptr σ.next 0) (newRow σ v.cells):=by
 obtain ⟨J,g2⟩:=sI h (fun x I=>⟨jV hv x I,(List.all_eq_true.1 hs) x I⟩) t
 refine ⟨_,_,?_,?_,J,g2⟩
 ·rw [h.next,G4]
  simp [Instr.box,newVar,Go.newRow,fT]
 ·simp [wf,h.next,kS]
theorem lU (z:List V)(n:Nat): (repeatL z n).length=n*z.length:=by
 induction n with
 | zero=>simp [repeatL]
 | succ n I=>simp [repeatL,I,Nat.succ_mul,tc]
theorem Jl (z:List V)(n:Nat): ∀i,i<n*z.length→(repeatL z n)[i]?=z[i%z.length]?:=by
 induction n with
 | zero=>intro i hi; simp at hi
 | succ n J =>
  intro i hi
  rw [Nat.succ_mul] at hi
  simp only [repeatL]
  by_cases I:i<z.length
  ·rw [jL I,gY I]
  ·rw [mS (by omega),J _ (by omega)]
   congr 1
   have:=Nat.mod_eq_sub_mod (show i≥z.length by omega)
   rw [this]
theorem j9 {z:List V}{n:Nat}{v:V}(h:v∈repeatL z n): v∈z:=by
 induction n with
 | zero=>simp [repeatL] at h
 | succ n I =>
  simp only [repeatL,qK] at h
  rcases h with h | h
  ·exact h
  ·exact I h
theorem ny (c:Ctx)(z:List V)(n:Nat)(hz:1≤z.length):
  ((Array.range (n*z.length)).map fun i=>((z.map (conc c)).toArray)[i%((z.map (conc c)).toArray).size]!)=((repeatL z n).map (conc c)).toArray:=by
 apply qE
 intro i
 by_cases hi:i<n*z.length
 ·have I:i%z.length<z.length:=vZ _ hz
  have J:=Jl z n i hi
  rw [bf I] at J
  simp only [Array.getElem?_map,Array.getElem?_range,hi,bO,jN,List.size_toArray,fS,lN,mV,J]
  congr 1
  rw [getElem!_pos _ _ (by simpa using I)]
  simp
 ·have h3:(repeatL z n).length≤i:=by rw [lU]; omega
  simp [hi,h3]
theorem Cq {t:TypeId}{n:Nat}{l:List (Nat×V)}{v:V}{J:H}(h:Rel c σ w)(I:buildSliceV P σ t n l=some (v,J))(hl:∀x∈l,wf c x.2):
  g_ P (Instr.buildSlice t n (l.map fun x=>(x.1,conc c x.2)).toArray) c w v J:=by
 unfold buildSliceV at I
 generalize ht:P.underlying t=dt at I
 split at I
 ·rename_i e
  cases hk:bH P e with
  | none=>simp [hk] at I
  | some k =>
   cases hz:zeroT P e with
   | none=>simp [hk,hz] at I
   | some z =>
    simp only [hk,hz] at I
    cases hq:(Nat.beq z.cells.length k&&Nat.ble (n*k) 65536&&Nat.ble 1 k) with
    | false=>simp [hq] at I
    | true =>
     simp only [hq,ag] at I
     simp only [aO,beq_iff,aJ] at hq
     obtain ⟨⟨q1,q2⟩,q3⟩:=hq
     obtain ⟨z1,z2⟩:=gD hz c w
     cases hf:fillV (fun i=>some (i*k,k)) (repeatL z.cells n) l with
     | none=>simp [hf] at I
     | some cs =>
      simp only [hf] at I
      cases hs:cs.all storable with
      | false=>simp [hs] at I
      | true =>
       simp only [hs,ag,aq,aF] at I
       obtain ⟨rfl,rfl⟩:=I
       obtain ⟨f1,f2,f3⟩:=AH (c:=c) _ l _ cs hf (fun v hv=>jV z2 v (j9 hv)) hl
       obtain ⟨g1,g2⟩:=sI h (fun v hv=>⟨f2 v hv,(List.all_eq_true.1 hs) v hv⟩) e
       refine ⟨_,_,?_,?_,g1,g2⟩
       ·have h24:¬ (n*k>2^24):=by omega
        have Bu:((Array.range (n*k)).map fun i=>((z.cells.map (conc c)).toArray)[i%((z.cells.map (conc c)).toArray).size]!)=((repeatL z.cells n).map (conc c)).toArray:=by
         rw [←q1]; exact ny c z.cells n (by omega)
        by_cases h0:n*k=0
        ·have lG:(repeatL z.cells n)=[]:=by
          have:(repeatL z.cells n).length=0:=by rw [lU,q1]; exact h0
          exact List.length_eq_zero_iff.1 this
         rw [lG] at f1
         simp only [AD] at f1
         simp only [Instr.buildSlice,Sem.run_bind,run_underlying ht,Result.andThen_ok,cW hk,h0,bO]
         have Bv:(Array.map (fun (_:Nat)=>(default:Value)) (Array.range 0)) = #[]:=by simp [Array.range]
         simp [Bv,f1,Go.newRow,h.next,conc,bB]
        ·simp only [Instr.buildSlice,Sem.run_bind,run_underlying ht,Result.andThen_ok,cW hk,h24,bN,h0,Sem.run_pure,z1,fT,Bu,f1]
         simp [Go.newRow,h.next,conc,bB]
       ·simp [wf,h.next,kS]
 ·simp at I
theorem yG (c:Ctx){l:List Nat}(I:∀x∈l,x<256): ((⟨(l.map UInt8.ofNat).toArray⟩:ByteArray).data.map fun b=>Value.int .u8 b.toNat)=((ofBytes l).map (conc c)).toArray:=by
 simp only [List.map_toArray,ofBytes,vX]
 congr 1
 refine oX fun x J => ?_
 simp [conc,sV,gY (I x J)]
theorem vr {l:List Nat}{v:V}(h:v∈ofBytes l): ∃n:Nat,v=.int .u8 n:=by
 simp only [ofBytes,nT] at h
 obtain ⟨n,_,rfl⟩:=h
 exact ⟨n,rfl⟩
theorem Nt {s d:TypeId}{x v:V}{eS:H}(h:Rel c σ w)(J:convB P σ s d x=some (v,eS))(hx:wf c x):
  g_ P (convert s d (conc c x)) c w v eS:=by
 unfold convB at J
 generalize hs:P.underlying s=ds at J
 generalize hd:P.underlying d=dd at J
 split at J
 ·rename_i e l
  generalize he:P.underlying e=de at J
  split at J
  ·cases hk:bH P e with
   | none=>simp [hk] at J
   | some k =>
    simp only [hk] at J
    cases hq:Nat.beq k 1 with
    | false=>simp [hq] at J
    | true =>
     have:=beq_iff.1 hq
     subst this
     simp only [hq,ag,aq,aF] at J
     obtain ⟨rfl,rfl⟩:=J
     have hl:∀y∈l,y<256:=by simpa [wf] using hx
     have eZ:(⟨(l.map UInt8.ofNat).toArray⟩:ByteArray).size=l.length:=by simp [ByteArray.size]
     generalize LG:(Question.appendCap l.length 0 e).cut (w.tape w.drawn (.appendCap l.length 0 e))=cap
     have abV:l.length≤cap:=by rw [←LG]; simp [Question.cut]
     obtain ⟨C,VQ⟩:∃C:Array Value,C=((ofBytes l).map (conc c)).toArray++Array.replicate (cap-l.length) (.int .u8 0):=⟨_,rfl⟩
     have hC:C.size=cap:=by simp [VQ,ofBytes]; omega
     have tT:(convert s d (conc c (.str l))).run P w=.ok (.slice (some ⟨w.heap.size,0,none⟩) l.length cap) (w.drew.alloc (.cells C e (cap,cap+1))):=by
      simp only [conc,convert,Sem.run_bind,run_underlying hs,run_underlying hd,run_underlying he,Result.andThen_ok]
      simp only [Conv.stringToBytes,Sem.run_bind,run_choose,eZ,Question.forced,dY,bN,Result.andThen_ok,LG,yG c hl,←VQ]
      simp only [Go.newRow,Sem.run_bind,run_newObj,Result.andThen_ok,Sem.run_pure,markStringish,run_shape]
      have I:World.shape? { w.drew with heap:=w.drew.heap.push (.cells C e) } w.drew.heap.size=some (e,cap):=by
       simp only [World.shape?,D1,bO,hC]
      simp only [World.drew] at I ⊢
      rw [I]
      simp only [run_freeze,Result.andThen_ok]
      congr 1
      simp only [World.freeze,World.alloc]
      simp only [Nat.one_ne_zero,bN]
      congr 1
      apply qE
      intro i
      rw [DV]
      simp only [D1]
      by_cases hi:w.heap.size=i
      ·subst hi; simp
      ·simp [hi,jO hi]
     have hex:=h.drew
     have g:=hex.new (.cells l.length (ofBytes l) true) (.cells C e (cap,cap+1)) 0 rfl ?_
     ·obtain ⟨g1,g2⟩:=g
      have Fe:objSize (.cells C e (cap,cap+1))=cap:=by simp [objSize,hC]
      rw [Fe] at g1 g2
      refine ⟨_,_,?_,?_,g1,(cV.drew c w).trans g2⟩
      ·rw [tT]
       simp [conc,h.next,Ctx.room,Ctx.grow]
      ·simp [wf,h.next,Ctx.room,Ctx.grow]; omega
     ·have Fe:objSize (.cells C e (cap,cap+1))=cap:=by simp [objSize,hC]
      rw [Fe]
      refine ⟨by simp [ofBytes],fun v hv => ?_,C,e,(cap,cap+1),by rw [bB,iA]; simp,by rw [bB]; simp only; omega,fun j v hv => ?_,by simp [FzOk,hC]⟩
      ·obtain ⟨n,rfl⟩:=vr hv
       exact ⟨by simp [wf],rfl⟩
      ·rw [bB]
       obtain ⟨hj,tN⟩:=List.getElem?_eq_some_iff.1 hv
       obtain ⟨n,rfl⟩:=vr (bC hv)
       rw [VQ,Array.getElem?_append_left (by simpa using hj)]
       simp [hv,conc]
  ·simp at J
 ·rename_i e' e id off len cap
  generalize he:P.underlying e=de at J
  split at J
  ·rename_i sy n cs hg
   cases hq:Nat.beq s d with
   | false=>simp [hq] at J
   | true =>
    have hsd:=beq_iff.1 hq
    subst hsd
    simp only [hq,ag,aq,aF] at J
    obtain ⟨rfl,rfl⟩:=J
    have hee:e'=e:=by rw [hs] at hd; simpa using hd
    subst hee
    obtain ⟨hn,Nu,C,el,fz,hb,hle,hc,wj⟩:=h.obj id _ hg
    simp only [FzOk] at wj
    subst wj
    have g:=h.Kl (st':=true) (qv:=(C.size,C.size+1)) (C':=C) (cs':=cs) hg hb rfl hn Nu hc (by simp [FzOk])
    refine ⟨_,c,?_,hx,g.1,g.2⟩
    have bF:(c.ρ id).1<w.heap.size:=(Array.getElem?_eq_some_iff.1 hb).1
    have Nv:∃a n m,conc c (.sl id off len cap)=.slice (some a) n m∧a.block=(c.ρ id).1:=by
     cases cap with
     | exact k=>exact ⟨⟨(c.ρ id).1,(c.ρ id).2+off,none⟩,len,k,by simp only [conc],rfl⟩
     | rest iy alt=>exact ⟨⟨(c.ρ id).1,(c.ρ id).2+(if c.room id off iy=0 then alt else off),none⟩,len,c.room id off iy,by simp only [conc],rfl⟩
    obtain ⟨a,n',m',Nv,mL⟩:=Nv
    have I:World.shape? w a.block=some (el,C.size):=by simp [World.shape?,mL,hb]
    rw [Nv]
    simp only [convert,Sem.run_bind,run_underlying hs,run_underlying he,Result.andThen_ok,beq_self_eq_true,markStringish,run_shape,I,run_freeze,Sem.run_pure]
    congr 1
    simp only [World.freeze,World.setRow,Nat.one_ne_zero,bN,mL]
    congr 1
    apply qE
    intro i
    rw [DV,mR]
    by_cases hi:(c.ρ id).1=i
    ·subst hi
     rw [aj rfl,aj rfl,hb]
     simp [bF]
    ·simp [hi]
  ·simp at J
 ·simp at J
theorem uV {x:Int}(I:0≤x)(h1:x<9223372036854775808): IntKind.i64.wrap x=x:=by
 have J:x%(2^IntKind.i64.bits:Int)=x:=Int.emod_eq_of_lt I (by simp [IntKind.bits]; omega)
 have h4:¬ (x≥(2^(IntKind.i64.bits-1):Int)):=by simp [IntKind.bits]; omega
 simp only [IntKind.wrap,J]
 simp [h4]
theorem En {t:TypeId}{a b v:V}{eS:H}(h:Rel c σ w)(I:makeSliceV P σ t a b=some (v,eS)):
  g_ P (Instr.makeSlice t (conc c a) (conc c b)) c w v eS:=by
 unfold makeSliceV at I
 generalize ht:P.underlying t=dt at I
 split at I
 ·rename_i e
  split at I
  ·rename_i i z k1 l k2 n hi hz
   cases hq:(decide (0≤l)&&decide (l≤n)&&decide (n<1073741824)&&Nat.ble i.bytes 4096&&Nat.beq z.cells.length i.size&&Nat.ble 1 i.size) with
   | false=>simp [hq] at I
   | true =>
    simp only [hq,ag,aq,aF] at I
    obtain ⟨rfl,rfl⟩:=I
    simp only [aO,eL,beq_iff,aJ] at hq
    obtain ⟨⟨⟨⟨⟨q1,q2⟩,q3⟩,q4⟩,q5⟩,q6⟩:=hq
    obtain ⟨z1,z2⟩:=gD hz c w
    have hlen:(repeatL z.cells n.toNat).length=n.toNat*i.size:=by rw [lU,q5]
    have g:=sI (cs:=repeatL z.cells n.toNat) h (fun v hv=>⟨jV z2 v (j9 hv),lT hz v (j9 hv)⟩) e
    obtain ⟨g1,g2⟩:=g
    have hnr:newRow σ (repeatL z.cells n.toNat)=σ.new (.cells (n.toNat*i.size) (repeatL z.cells n.toNat) false):=by simp [newRow,hlen]
    rw [hnr] at g1
    refine ⟨_,_,?_,?_,g1,g2⟩
    ·have w1:=uV q1 (by omega)
     have w2:=uV (x:=n) (by omega) (by omega)
     have hb:¬ ((i.bytes:Int)*n>2^48):=by
      have:(i.bytes:Int)*n≤4096*1073741824:=Int.mul_le_mul (by omega) (by omega) (by omega) (by omega)
      omega
     have rO:¬ (n<0):=by omega
     have Cs:¬ (l<0):=by omega
     have VR:¬ (l>n):=by omega
     have eZ:(sizeOf e).run P w=.ok i.size w:=by simp [sizeOf,typeInfo,hi]
     have Nw:(typeInfo e).run P w=.ok i w:=by simp [typeInfo,hi]
     simp only [Instr.makeSlice,Sem.run_bind,run_underlying ht,Result.andThen_ok,conc,asInt,asIntOf,Sem.run_pure,Nw,w1,w2]
     have J:(((decide (n<0)||decide ((i.bytes:Int)*n>2^48))||decide (l<0))||decide (l>n))=false:=by
      simp only [rO,hb,Cs,VR,o6,Bool.or_self]
     rw [J]
     simp only [dY,bN]
     by_cases h0:n.toNat*i.size=0
     ·have hn:n.toNat=0:=by
       rcases Nat.mul_eq_zero.1 h0 with e1 | e1
       ·exact e1
       ·omega
      rw [hn]
      have Bv:(Array.map (fun (_:Nat)=>(default:Value)) (Array.range 0)) = #[]:=by simp [Array.range]
      simp [Go.newRow,h.next,bB,repeatL,eZ,Bv]
     ·have Bu:((Array.range (n.toNat*i.size)).map fun j=>((z.cells.map (conc c)).toArray)[j%((z.cells.map (conc c)).toArray).size]!)=((repeatL z.cells n.toNat).map (conc c)).toArray:=by
       rw [←q5]; exact ny c z.cells n.toNat (by omega)
      have Ct:(conc c z).cells=(z.cells.map (conc c)).toArray:=fT c z
      simp only [Sem.run_bind,Sem.run_pure,run_askRoom,Result.andThen_ok,eZ,h0,bN,z1,Ct,Bu,Go.newRow,run_newObj]
      simp [h.next,bB]
    ·simp [wf,h.next,kS]; omega
  ·simp at I
 ·simp at I
theorem Jm (h:Rel c σ w)(t:TypeId): g_ P (Instr.makeMap t none) c w (.map σ.next) (σ.new (.map [] 0)):=by
 have g:=h.new (.map [] 0) (.map #[] 0) 0 rfl ⟨by simp,by rw [bB,iA]; simp⟩
 refine ⟨_,_,?_,?_,g.1,g.2⟩
 ·simp [Instr.makeMap,conc,h.next,bB]
 ·simp [wf,h.next,kS]
theorem Cv {α β:Type}(g:α→β)(f:α→α)(f':β→β)(I:∀x,g (f x)=f' (g x)): ∀(l:List α) (k:Nat),(setNth l k f).map g=(l.map g).modify k f':=by
 intro l
 induction l with
 | nil=>intro k; simp [setNth]
 | cons x l J =>
  intro k
  cases k with
  | zero=>simp [setNth,I]
  | succ k=>simp only [setNth,dc (vT k),az,sU,b6,J,List.modify_succ_cons]
theorem Cw {α:Type}{f:α→α}: ∀ {l:List α} {k:Nat} {x:α},x∈setNth l k f→x∈l∨∃y∈l,x=f y:=by
 intro l
 induction l with
 | nil=>intro k x h; simp [setNth] at h
 | cons y l I =>
  intro k x h
  cases k with
  | zero =>
   simp only [setNth,dR,ag,fq] at h
   rcases h with rfl | h
   ·exact .inr ⟨y,by simp,rfl⟩
   ·exact .inl (by simp [h])
  | succ k =>
   simp only [setNth,dc (vT k),az,fq] at h
   rcases h with rfl | h
   ·exact .inl (by simp)
   ·rcases I h with h | ⟨z,J,rfl⟩
    ·exact .inl (by simp [h])
    ·exact .inr ⟨z,by simp [J],rfl⟩
theorem LH {α:Type}: ∀(l:List α) (k:Nat),ki l k=l.eraseIdx k:=by
 intro l
 induction l with
 | nil=>intro k; simp [ki]
 | cons x l I =>
  intro k
  cases k with
  | zero=>simp [ki]
  | succ k=>simp only [ki,dc (vT k),az,sU,I,List.eraseIdx_cons_succ]
theorem Jn {α β:Type}(g:α→β): ∀(l:List α) (k:Nat),(ki l k).map g=(l.map g).eraseIdx k:=by
 intro l
 induction l with
 | nil=>intro k; simp [ki]
 | cons x l I =>
  intro k
  cases k with
  | zero=>simp [ki]
  | succ k=>simp only [ki,dc (vT k),az,sU,b6,I,List.eraseIdx_cons_succ]
theorem Bw {d:TypeDesc}{a b:V}(h:keyBeq d a b=some true)(J:wf c a)(hb:wf c b): conc c a=conc c b∧∀n,Instr.sameBits n (conc c b) (conc c a)=true:=by
 unfold keyBeq at h
 split at h
 ·rename_i j x k y
  cases I:ikBeq j k with
  | false=>simp [I] at h
  | true =>
   have:=oN I
   subst this
   simp only [I,ag,aq,nu,beq_iff_eq] at h
   subst h
   exact ⟨rfl,fun n=>by cases n <;> simp [conc,Instr.sameBits]⟩
 ·rename_i x y
  simp only [aq,sG,beq_iff_eq] at h
  subst h
  refine ⟨rfl,fun n => ?_⟩
  have:((⟨(x.map UInt8.ofNat).toArray⟩:ByteArray) == ⟨(x.map UInt8.ofNat).toArray⟩)=true:=by
   rw [yF (by simpa [wf] using J) (by simpa [wf] using J),sG]; simp
  cases n <;> simp [conc,Instr.sameBits,this]
 ·simp at h
theorem wk {t:TypeId}{x k v:V}{eS:H}(h:Rel c σ w)(I:mapUpdateV P σ t x k v=some eS)(hk:wf c k)(hv:wf c v):
  Qt P (Instr.mapUpdate t (conc c x) (conc c k) (conc c v)) c w eS:=by
 unfold mapUpdateV at I
 generalize ht:P.underlying t=dt at I
 split at I
 ·rename_i kt et
  generalize hd:P.underlying kt=dk at I
  split at I
  ·rename_i d id
   split at I
   ·rename_i es clock hg
    obtain ⟨hw,hb⟩:=h.obj id _ hg
    have pV:=j6 (P:=P) hb (by simp)
    split at I
    ·rename_i b i u pR hf
     simp only [aq] at I
     subst I
     have tS:=kV (P:=P) hd hk hf hw w
     obtain ⟨e,g1,_,g3,g4⟩:=(w8 hk es 0 _ hf hw).2 (i,u) rfl
     simp only [kf] at g1
     have SZ:=hw e (bC g1)
     obtain ⟨s1,s2⟩:=Bw g4 hk SZ.1
     have hm:=h.tO (es':=setNth es i fun e=>(e.1,v,e.2.2)) (k':=clock) hg (by
      intro y J
      rcases Cw J with J | ⟨z,hz,rfl⟩
      ·exact hw y J
      ·exact ⟨(hw z hz).1,hv⟩)
     refine ⟨_,_,?_,hm.1,hm.2⟩
     simp only [Instr.mapUpdate,Sem.run_bind,run_underlying ht,Result.andThen_ok,conc,pV]
     rw [jt hd pR]
     simp only [Result.andThen_ok,tS,jN,Sem.run_bind]
     have Bq:((es.map (cj c)).toArray[i]?.map (·.key)).getD (conc c k)=conc c e.1:=by simp [g1,cj]
     rw [Bq]
     simp only [Instr.keyThatStays,s2,bO,Sem.run_pure,Result.andThen_ok]
     rw [kT hb (by simp)]
     congr 3
     rw [Cv (cj c) _ (fun e=>{ e with val:=conc c v }) (by intro y; simp [cj])]
     rw [D2]
     congr 2
     -- the key that stays is the elder one
     apply qF
     intro j
     simp only [List.getElem?_modify]
     by_cases hj:i=j
     ·subst hj
      simp [g1,cj,s1]
     ·simp [hj]
    ·rename_i b pR hf
     simp only [aq] at I
     subst I
     have tS:=kV (P:=P) hd hk hf hw w
     have hm:=h.tO (es':=es++[(k,v,clock)]) (k':=clock+1) hg (by
      intro y J
      simp only [qK,vO] at J
      rcases J with J | rfl
      ·exact hw y J
      ·exact ⟨hk,hv⟩)
     refine ⟨_,_,?_,hm.1,hm.2⟩
     simp only [Instr.mapUpdate,Sem.run_bind,run_underlying ht,Result.andThen_ok,conc,pV]
     rw [jt hd pR]
     simp only [Result.andThen_ok,tS,iV]
     rw [kT hb (by simp)]
     congr 3
     simp [cj]
    ·simp at I
   ·simp at I
  ·simp at I
 ·simp at I
theorem Gk {t:TypeId}{x k v:V}{eS:H}(h:Rel c σ w)(I:mapEntryV P σ t x k=some (v,eS))(hk:wf c k):
  g_ P (Instr.mapEntry t (conc c x) (conc c k)) c w v eS:=by
 unfold mapEntryV at I
 generalize ht:P.underlying t=dt at I
 split at I
 ·rename_i kt et
  generalize hd:P.underlying kt=dk at I
  split at I
  ·rename_i d z id hz
   obtain ⟨z1,z2⟩:=gD hz c w
   split at I
   ·rename_i es clock hg
    obtain ⟨hw,hb⟩:=h.obj id _ hg
    have pV:=j6 (P:=P) hb (by simp)
    split at I
    ·rename_i b i u J hf
     rw [fF] at I
     have tS:=kV (P:=P) hd hk hf hw w
     obtain ⟨e,g1,_,g3,g4⟩:=(w8 hk es 0 _ hf hw).2 (i,u) rfl
     simp only [kf] at g1
     simp only [g1,aq,aF] at I
     obtain ⟨rfl,rfl⟩:=I
     have SZ:=hw e (bC g1)
     obtain ⟨s1,s2⟩:=Bw g4 hk SZ.1
     have hu:wf c u:=by simp only at g3; rw [g3]; exact SZ.2
     refine g_.same h ⟨?_,by simp [wf,fu,hu]⟩
     simp only [Instr.mapEntry,Sem.run_bind,run_underlying ht,Result.andThen_ok,conc,pV]
     rw [jt hd J]
     simp only [Result.andThen_ok,tS,jN,Sem.run_bind]
     have Bq:((es.map (cj c)).toArray[i]?.map (·.key)).getD (conc c k)=conc c e.1:=by simp [g1,cj]
     rw [Bq]
     simp only [Instr.keyThatStays,s2,bO,Sem.run_pure,Result.andThen_ok]
     rw [kT hb (by simp)]
     have LI:({ w with heap:=w.heap.setIfInBounds (c.ρ id).1 (.map ((es.map (cj c)).toArray.modify i fun e=>{ e with key:=conc c k }) clock) }:World)=w:=by
      have:(es.map (cj c)).toArray.modify i (fun e=>{ e with key:=conc c k })=(es.map (cj c)).toArray:=by
       rw [D2]
       congr 1
       apply qF
       intro j
       simp only [List.getElem?_modify]
       by_cases hj:i=j
       ·subst hj; simp [g1,cj,s1]
       ·simp [hj]
      rw [this]
      obtain ⟨bF,pS⟩:=Array.getElem?_eq_some_iff.1 hb
      have:w.heap.setIfInBounds (c.ρ id).1 (.map (es.map (cj c)).toArray clock)=w.heap:=by
       apply qE
       intro j
       rw [mR]
       by_cases hj:(c.ρ id).1=j
       ·subst hj; simp [bF,pS]
       ·simp [hj]
      rw [this]
     rw [LI]
     simp [g1,cj,conc,concL,goInt]
    ·rename_i b J hf
     simp only [aq,aF] at I
     obtain ⟨rfl,rfl⟩:=I
     have tS:=kV (P:=P) hd hk hf hw w
     have hm:=h.tO (es':=es++[(k,z,clock)]) (k':=clock+1) hg (by
      intro y hy
      simp only [qK,vO] at hy
      rcases hy with hy | rfl
      ·exact hw y hy
      ·exact ⟨hk,z2⟩)
     refine ⟨_,_,?_,by simp [wf,fu,z2],hm.1,hm.2⟩
     simp only [Instr.mapEntry,Sem.run_bind,run_underlying ht,Result.andThen_ok,conc,pV]
     rw [jt hd J]
     simp only [Result.andThen_ok,tS,iV,Sem.run_bind,z1]
     rw [kT hb (by simp)]
     simp [cj,concL,conc,goInt]
    ·simp at I
   ·simp at I
  ·simp at I
 ·simp at I
theorem Jo (c:Ctx)(b:Int): ∀(es:List (V×V×Nat)) (i j:Nat),findBorn es b i=some j →
  (es.map (cj c)).findIdx? (fun e=>(e.born:Int) == b)=some (j-i)∧i≤j:=by
 intro es
 induction es with
 | nil=>intro i j h; simp [findBorn] at h
 | cons e es ih =>
  intro i j h
  simp only [findBorn,nu] at h
  by_cases I:(e.2.2:Int)=b
  ·have:((e.2.2:Int) == b)=true:=by simpa using I
   rw [this,ag,aq] at h
   subst h
   simp [List.findIdx?_cons,cj,I]
  ·have:((e.2.2:Int) == b)=false:=by simpa using I
   rw [this,az] at h
   obtain ⟨h1,h2⟩:=ih (i+1) j h
   refine ⟨?_,by omega⟩
   rw [b6,List.findIdx?_cons,h1]
   have J:(((cj c e).born:Int) == b)=false:=by simpa [cj] using I
   rw [J]
   simp
   omega
theorem Cx {t:TypeId}{x s v:V}{J:H}(h:Rel c σ w)(I:entryStoreV σ x s v=some J)(hv:wf c v):
  Qt P (Instr.entryStore t (conc c x) (conc c s) (conc c v)) c w J:=by
 unfold entryStoreV at I
 split at I
 ·rename_i id k b
  split at I
  ·rename_i es clock hg
   obtain ⟨hw,hb⟩:=h.obj id _ hg
   have pV:=j6 (P:=P) hb (by simp)
   cases hf:findBorn es b 0 with
   | none=>simp [hf] at I
   | some i =>
    simp only [hf,aq] at I
    subst I
    have Zu:=(Jo c b es 0 i hf).1
    have hm:=h.tO (es':=setNth es i fun e=>(e.1,v,e.2.2)) (k':=clock) hg (by
     intro y hy
     rcases Cw hy with hy | ⟨z,hz,rfl⟩
     ·exact hw y hy
     ·exact ⟨(hw z hz).1,hv⟩)
    refine ⟨_,_,?_,hm.1,hm.2⟩
    simp only [Instr.entryStore,conc,Sem.run_bind,pV,Result.andThen_ok,asInt,asIntOf,Sem.run_pure]
    have hfa:(es.map (cj c)).toArray.findIdx? (fun e=>(e.born:Int) == b)=some i:=by
     simpa using Zu
    rw [hfa]
    simp only
    rw [kT hb (by simp)]
    congr 3
    rw [Cv (cj c) _ (fun e=>{ e with val:=conc c v }) (by intro y; simp [cj])]
    rw [D2]
  ·simp at I
 ·simp at I
theorem Jp {t ty:TypeId}{x k:V}{eS:H}(h:Rel c σ w)(I:o8 P σ t x k=some eS)(hk:wf c k)(ts:Array TypeId)(nA:ts[0]?=some t):
  ∃w' c',(Builtin.delete_ ts ty #[conc c x,conc c k]).run P w=.ok (.tuple #[]) w'∧Rel c' eS w'∧cV c w c' w':=by
 unfold o8 at I
 generalize ht:P.underlying t=dt at I
 split at I
 ·rename_i kt et
  generalize hd:P.underlying kt=dk at I
  split at I
  ·rename_i d id
   split at I
   ·rename_i es clock hg
    obtain ⟨hw,hb⟩:=h.obj id _ hg
    have pV:=j6 (P:=P) hb (by simp)
    split at I
    ·rename_i b i u J hf
     simp only [aq] at I
     subst I
     have tS:=kV (P:=P) hd hk hf hw w
     have hm:=h.tO (es':=ki es i) (k':=clock) hg (by
      intro y hy
      rw [LH] at hy
      exact hw y (List.mem_of_mem_eraseIdx hy))
     refine ⟨_,_,?_,hm.1,hm.2⟩
     simp only [Builtin.delete_,nA,lN,mT,kK,Sem.run_bind,run_underlying ht,Result.andThen_ok,conc,pV]
     rw [jt hd J]
     simp only [Result.andThen_ok,tS,jN,Sem.run_bind]
     rw [kT hb (by simp)]
     simp [Jn]
    ·rename_i b J hf
     simp only [aq] at I
     subst I
     have tS:=kV (P:=P) hd hk hf hw w
     have hm:=h.tO (es':=es) (k':=clock) hg hw
     refine ⟨w,c,?_,h,cV.refl c w⟩
     simp only [Builtin.delete_,nA,lN,mT,kK,Sem.run_bind,run_underlying ht,Result.andThen_ok,conc,pV]
     rw [jt hd J]
     simp only [Result.andThen_ok,tS,iV,Sem.run_bind]
     rw [kT hb (by simp)]
     obtain ⟨bF,pS⟩:=Array.getElem?_eq_some_iff.1 hb
     have:w.heap.setIfInBounds (c.ρ id).1 (.map (es.map (cj c)).toArray clock)=w.heap:=by
      apply qE
      intro j
      rw [mR]
      by_cases hj:(c.ρ id).1=j
      ·subst hj; simp [bF,pS]
      ·simp [hj]
     simp [this]
    ·simp at I
   ·simp at I
  ·simp at I
 ·simp at I
end
end Go.Proofs.YtefepnnfphdkpaaGreat.Am
