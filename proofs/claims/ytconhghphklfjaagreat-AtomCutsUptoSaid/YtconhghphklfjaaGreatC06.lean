/- AtomCuts: a part of its proof; conditions: its statement's. -/
import Derived.Test.YtconhghphklfjaaGreatC05
namespace Go.Proofs.YtconhghphklfjaaGreat.Am
open Go
section
variable {P:Program} {c:Ctx} {σ:H} {w:World}
def gY (P:Program)(s:Sem Value)(c:Ctx)(w:World)(v:V)(J:H): Prop :=
 ∃w' I,s.run P w=.ok (conc I v) w'∧wf I v∧Rel I J w'∧dG c w I w'
def Pw (P:Program)(s:Sem Unit)(c:Ctx)(w:World)(I:H): Prop :=
 ∃w' J,s.run P w=.ok () w'∧Rel J I w'∧dG c w J w'
theorem gY.same {s:Sem Value}{v:V}(h:Rel c σ w)(I:s.run P w=.ok (conc c v) w∧wf c v): gY P s c w v σ :=
 ⟨w,c,I.1,I.2,h,dG.refl c w⟩
theorem sV {cs:List V}(h:Rel c σ w)(I:∀v∈cs,wf c v∧storable v=true)(e:TypeId):
  Rel (c.grow w.heap.size 0 cs.length) (newRow σ cs) (w.alloc (.cells (cs.map (conc c)).toArray e))∧dG c w (c.grow w.heap.size 0 cs.length) (w.alloc (.cells (cs.map (conc c)).toArray e)):=by
 have:=h.newRow I e []
 simpa [newRow] using this
theorem Gu (c:Ctx)(b size:Nat): conc (c.grow b 0 size) (.ptr c.N 0)=.pointer (some ⟨b,0,none⟩):=by
 simp [conc,bB]
theorem MH {t:TypeId}{z:V}(h:Rel c σ w)(I:zeroT P t=some z):
  gY P (Instr.alloc t true (.tuple #[])) c w (.ptr σ.next 0) (newRow σ z.cells):=by
 obtain ⟨U,z2⟩:=fV I c w
 obtain ⟨g1,g2⟩:=sV h (fun v J=>⟨kG z2 v J,lZ I v J⟩) t
 refine ⟨_,_,?_,?_,g1,g2⟩
 ·rw [h.next,Gu]
  simp [Instr.alloc,U,newVar,Go.newRow,fF]
 ·simp [wf,h.next,kY]
theorem S_ {t:TypeId}{v:V}(h:Rel c σ w)(J:wf c v)(hs:v.cells.all storable=true):
  gY P (Instr.box t (conc c v)) c w (.ptr σ.next 0) (newRow σ v.cells):=by
 obtain ⟨U,g2⟩:=sV h (fun x I=>⟨kG J x I,(List.all_eq_true.1 hs) x I⟩) t
 refine ⟨_,_,?_,?_,U,g2⟩
 ·rw [h.next,Gu]
  simp [Instr.box,newVar,Go.newRow,fF]
 ·simp [wf,h.next,kY]
theorem nP (z:List V)(n:Nat): (repeatL z n).length=n*z.length:=by
 induction n with
 | zero=>simp [repeatL]
 | succ n I=>simp [repeatL,I,Nat.succ_mul,tN]
theorem IS (z:List V)(n:Nat): ∀i,i<n*z.length→(repeatL z n)[i]?=z[i%z.length]?:=by
 induction n with
 | zero=>intro i hi; simp at hi
 | succ n J =>
  intro i hi
  rw [Nat.succ_mul] at hi
  simp only [repeatL]
  by_cases I:i<z.length
  ·rw [kj I,gT I]
  ·rw [nI (by omega),J _ (by omega)]
   congr 1
   have:=Nat.mod_eq_sub_mod (show i≥z.length by omega)
   rw [this]
theorem lE {z:List V}{n:Nat}{v:V}(h:v∈repeatL z n): v∈z:=by
 induction n with
 | zero=>simp [repeatL] at h
 | succ n I =>
  simp only [repeatL,qQ] at h
  rcases h with h | h
  ·exact h
  ·exact I h
theorem qf (c:Ctx)(z:List V)(n:Nat)(U:1≤z.length):
  ((Array.range (n*z.length)).map fun i=>((z.map (conc c)).toArray)[i%((z.map (conc c)).toArray).size]!)=((repeatL z n).map (conc c)).toArray:=by
 apply qO
 intro i
 by_cases hi:i<n*z.length
 ·have I:i%z.length<z.length:=vU _ U
  have J:=IS z n i hi
  rw [bh I] at J
  simp only [Array.getElem?_map,Array.getElem?_range,hi,bP,je,List.size_toArray,en,mV,oZ,J]
  congr 1
  rw [getElem!_pos _ _ (by simpa using I)]
  simp
 ·have h3:(repeatL z n).length≤i:=by rw [nP]; omega
  simp [hi,h3]
theorem B7 {t:TypeId}{n:Nat}{l:List (Nat×V)}{v:V}{J:H}(h:Rel c σ w)(I:buildSliceV P σ t n l=some (v,J))(hl:∀x∈l,wf c x.2):
  gY P (Instr.buildSlice t n (l.map fun x=>(x.1,conc c x.2)).toArray) c w v J:=by
 unfold buildSliceV at I
 generalize ht:P.underlying t=dt at I
 split at I
 ·rename_i e
  cases U:bG P e with
  | none=>simp [U] at I
  | some k =>
   cases hz:zeroT P e with
   | none=>simp [U,hz] at I
   | some z =>
    simp only [U,hz] at I
    cases hq:(Nat.beq z.cells.length k&&Nat.ble (n*k) 65536&&Nat.ble 1 k) with
    | false=>simp [hq] at I
    | true =>
     simp only [hq,ag] at I
     simp only [aY,beq_iff,aQ] at hq
     obtain ⟨⟨q1,q2⟩,q3⟩:=hq
     obtain ⟨z1,z2⟩:=fV hz c w
     cases hf:fillV (fun i=>some (i*k,k)) (repeatL z.cells n) l with
     | none=>simp [hf] at I
     | some cs =>
      simp only [hf] at I
      cases hs:cs.all storable with
      | false=>simp [hs] at I
      | true =>
       simp only [hs,ag,au,aP] at I
       obtain ⟨rfl,rfl⟩:=I
       obtain ⟨f1,f2,f3⟩:=D1 (c:=c) _ l _ cs hf (fun v hv=>kG z2 v (lE hv)) hl
       obtain ⟨g1,g2⟩:=sV h (fun v hv=>⟨f2 v hv,(List.all_eq_true.1 hs) v hv⟩) e
       refine ⟨_,_,?_,?_,g1,g2⟩
       ·have h24:¬ (n*k>2^24):=by omega
        have A2:((Array.range (n*k)).map fun i=>((z.cells.map (conc c)).toArray)[i%((z.cells.map (conc c)).toArray).size]!)=((repeatL z.cells n).map (conc c)).toArray:=by
         rw [←q1]; exact qf c z.cells n (by omega)
        by_cases h0:n*k=0
        ·have qG:(repeatL z.cells n)=[]:=by
          have:(repeatL z.cells n).length=0:=by rw [nP,q1]; exact h0
          exact List.length_eq_zero_iff.1 this
         rw [qG] at f1
         simp only [List.map_nil] at f1
         simp only [Instr.buildSlice,Sem.run_bind,run_underlying ht,Result.andThen_ok,cZ U,h0,bP]
         have A3:(Array.map (fun (_:Nat)=>(default:Value)) (Array.range 0)) = #[]:=by simp [Array.range]
         simp [A3,f1,Go.newRow,h.next,conc,bB]
        ·simp only [Instr.buildSlice,Sem.run_bind,run_underlying ht,Result.andThen_ok,cZ U,h24,bK,h0,Sem.run_pure,z1,fF,A2,f1]
         simp [Go.newRow,h.next,conc,bB]
       ·simp [wf,h.next,kY]
 ·simp at I
theorem yu (c:Ctx){l:List Nat}(I:∀x∈l,x<256): ((⟨(l.map UInt8.ofNat).toArray⟩:ByteArray).data.map fun b=>Value.int .u8 b.toNat)=((ofBytes l).map (conc c)).toArray:=by
 simp only [List.map_toArray,ofBytes,vR]
 congr 1
 refine vJ fun x J => ?_
 simp [conc,tB,gT (I x J)]
theorem vt {l:List Nat}{v:V}(h:v∈ofBytes l): ∃n:Nat,v=.int .u8 n:=by
 simp only [ofBytes,nM] at h
 obtain ⟨n,_,rfl⟩:=h
 exact ⟨n,rfl⟩
theorem MI {s d:TypeId}{x v:V}{iE:H}(h:Rel c σ w)(J:convB P σ s d x=some (v,iE))(hx:wf c x):
  gY P (convert s d (conc c x)) c w v iE:=by
 unfold convB at J
 generalize hs:P.underlying s=ds at J
 generalize hd:P.underlying d=dd at J
 split at J
 ·rename_i e l
  generalize he:P.underlying e=de at J
  split at J
  ·cases hk:bG P e with
   | none=>simp [hk] at J
   | some k =>
    simp only [hk] at J
    cases hq:Nat.beq k 1 with
    | false=>simp [hq] at J
    | true =>
     have:=beq_iff.1 hq
     subst this
     simp only [hq,ag,au,aP] at J
     obtain ⟨rfl,rfl⟩:=J
     have hl:∀y∈l,y<256:=by simpa [wf] using hx
     have eO:(⟨(l.map UInt8.ofNat).toArray⟩:ByteArray).size=l.length:=by simp [ByteArray.size]
     generalize U:(Question.appendCap l.length 0 e).cut (w.tape w.drawn (.appendCap l.length 0 e))=cap
     have abv:l.length≤cap:=by rw [←U]; simp [Question.cut]
     obtain ⟨C,UO⟩:∃C:Array Value,C=((ofBytes l).map (conc c)).toArray++Array.replicate (cap-l.length) (.int .u8 0):=⟨_,rfl⟩
     have hC:C.size=cap:=by simp [UO,ofBytes]; omega
     have KY:(convert s d (conc c (.str l))).run P w=.ok (.slice (some ⟨w.heap.size,0,none⟩) l.length cap) (w.drew.alloc (.cells C e (cap,cap+1))):=by
      simp only [conc,convert,Sem.run_bind,run_underlying hs,run_underlying hd,run_underlying he,Result.andThen_ok]
      simp only [Conv.stringToBytes,Sem.run_bind,run_choose,eO,Question.forced,eS,bK,Result.andThen_ok,U,yu c hl,←UO]
      simp only [Go.newRow,Sem.run_bind,run_newObj,Result.andThen_ok,Sem.run_pure,markStringish,run_shape]
      have I:World.shape? { w.drew with heap:=w.drew.heap.push (.cells C e) } w.drew.heap.size=some (e,cap):=by
       simp only [World.shape?,DG,bP,hC]
      simp only [World.drew] at I ⊢
      rw [I]
      simp only [run_freeze,Result.andThen_ok]
      congr 1
      simp only [World.freeze,World.alloc]
      simp only [Nat.one_ne_zero,bK]
      congr 1
      apply qO
      intro i
      rw [DC]
      simp only [DG]
      by_cases hi:w.heap.size=i
      ·subst hi; simp
      ·simp [hi,ji hi]
     have hex:=h.drew
     have g:=hex.new (.cells l.length (ofBytes l) true) (.cells C e (cap,cap+1)) 0 rfl ?_
     ·obtain ⟨g1,g2⟩:=g
      have EO:objSize (.cells C e (cap,cap+1))=cap:=by simp [objSize,hC]
      rw [EO] at g1 g2
      refine ⟨_,_,?_,?_,g1,(dG.drew c w).trans g2⟩
      ·rw [KY]
       simp [conc,h.next,Ctx.room,Ctx.grow]
      ·simp [wf,h.next,Ctx.room,Ctx.grow]; omega
     ·have EO:objSize (.cells C e (cap,cap+1))=cap:=by simp [objSize,hC]
      rw [EO]
      refine ⟨by simp [ofBytes],fun v hv => ?_,C,e,(cap,cap+1),by rw [bB,iA]; simp,by rw [bB]; simp only; omega,fun j v hv => ?_,by simp [FzOk,hC]⟩
      ·obtain ⟨n,rfl⟩:=vt hv
       exact ⟨by simp [wf],rfl⟩
      ·rw [bB]
       obtain ⟨hj,uf⟩:=List.getElem?_eq_some_iff.1 hv
       obtain ⟨n,rfl⟩:=vt (br hv)
       rw [UO,Array.getElem?_append_left (by simpa using hj)]
       simp [hv,conc]
  ·simp at J
 ·rename_i e' e id off len cap
  generalize he:P.underlying e=de at J
  split at J
  ·rename_i B8 n cs hg
   cases hq:Nat.beq s d with
   | false=>simp [hq] at J
   | true =>
    have hsd:=beq_iff.1 hq
    subst hsd
    simp only [hq,ag,au,aP] at J
    obtain ⟨rfl,rfl⟩:=J
    have hee:e'=e:=by rw [hs] at hd; simpa using hd
    subst hee
    obtain ⟨hn,MJ,C,el,fz,hb,hle,hc,v7⟩:=h.obj id _ hg
    simp only [FzOk] at v7
    subst v7
    have g:=h.JO (st':=true) (qF:=(C.size,C.size+1)) (C':=C) (cs':=cs) hg hb rfl hn MJ hc (by simp [FzOk])
    refine ⟨_,c,?_,hx,g.1,g.2⟩
    have bS:(c.ρ id).1<w.heap.size:=(Array.getElem?_eq_some_iff.1 hb).1
    have MK:∃a n m,conc c (.sl id off len cap)=.slice (some a) n m∧a.block=(c.ρ id).1:=by
     cases cap with
     | exact k=>exact ⟨⟨(c.ρ id).1,(c.ρ id).2+off,none⟩,len,k,by simp only [conc],rfl⟩
     | rest AW alt=>exact ⟨⟨(c.ρ id).1,(c.ρ id).2+(if c.room id off AW=0 then alt else off),none⟩,len,c.room id off AW,by simp only [conc],rfl⟩
    obtain ⟨a,n',m',MK,pH⟩:=MK
    have I:World.shape? w a.block=some (el,C.size):=by simp [World.shape?,pH,hb]
    rw [MK]
    simp only [convert,Sem.run_bind,run_underlying hs,run_underlying he,Result.andThen_ok,beq_self_eq_true,markStringish,run_shape,I,run_freeze,Sem.run_pure]
    congr 1
    simp only [World.freeze,World.setRow,Nat.one_ne_zero,bK,pH]
    congr 1
    apply qO
    intro i
    rw [DC,mU]
    by_cases hi:(c.ρ id).1=i
    ·subst hi
     rw [aj rfl,aj rfl,hb]
     simp [bS]
    ·simp [hi]
  ·simp at J
 ·simp at J
theorem u5 {x:Int}(I:0≤x)(h1:x<9223372036854775808): IntKind.i64.wrap x=x:=by
 have J:x%(2^IntKind.i64.bits:Int)=x:=Int.emod_eq_of_lt I (by simp [IntKind.bits]; omega)
 have U:¬ (x≥(2^(IntKind.i64.bits-1):Int)):=by simp [IntKind.bits]; omega
 simp only [IntKind.wrap,J]
 simp [U]
theorem D3 {t:TypeId}{a b v:V}{U:H}(h:Rel c σ w)(I:makeSliceV P σ t a b=some (v,U)):
  gY P (Instr.makeSlice t (conc c a) (conc c b)) c w v U:=by
 unfold makeSliceV at I
 generalize ht:P.underlying t=dt at I
 split at I
 ·rename_i e
  split at I
  ·rename_i i z k1 l k2 n hi hz
   cases hq:(decide (0≤l)&&decide (l≤n)&&decide (n<1073741824)&&Nat.ble i.bytes 4096&&Nat.beq z.cells.length i.size&&Nat.ble 1 i.size) with
   | false=>simp [hq] at I
   | true =>
    simp only [hq,ag,au,aP] at I
    obtain ⟨rfl,rfl⟩:=I
    simp only [aY,ej,beq_iff,aQ] at hq
    obtain ⟨⟨⟨⟨⟨q1,q2⟩,q3⟩,q4⟩,q5⟩,q6⟩:=hq
    obtain ⟨z1,z2⟩:=fV hz c w
    have hlen:(repeatL z.cells n.toNat).length=n.toNat*i.size:=by rw [nP,q5]
    have g:=sV (cs:=repeatL z.cells n.toNat) h (fun v hv=>⟨kG z2 v (lE hv),lZ hz v (lE hv)⟩) e
    obtain ⟨g1,g2⟩:=g
    have hnr:newRow σ (repeatL z.cells n.toNat)=σ.new (.cells (n.toNat*i.size) (repeatL z.cells n.toNat) false):=by simp [newRow,hlen]
    rw [hnr] at g1
    refine ⟨_,_,?_,?_,g1,g2⟩
    ·have w1:=u5 q1 (by omega)
     have w2:=u5 (x:=n) (by omega) (by omega)
     have hb:¬ ((i.bytes:Int)*n>2^48):=by
      have:(i.bytes:Int)*n≤4096*1073741824:=Int.mul_le_mul (by omega) (by omega) (by omega) (by omega)
      omega
     have sL:¬ (n<0):=by omega
     have xS:¬ (l<0):=by omega
     have UP:¬ (l>n):=by omega
     have eO:(sizeOf e).run P w=.ok i.size w:=by simp [sizeOf,typeInfo,hi]
     have ML:(typeInfo e).run P w=.ok i w:=by simp [typeInfo,hi]
     simp only [Instr.makeSlice,Sem.run_bind,run_underlying ht,Result.andThen_ok,conc,asInt,asIntOf,Sem.run_pure,ML,w1,w2]
     have J:(((decide (n<0)||decide ((i.bytes:Int)*n>2^48))||decide (l<0))||decide (l>n))=false:=by
      simp only [sL,hb,xS,UP,qV,Bool.or_self]
     rw [J]
     simp only [eS,bK]
     by_cases h0:n.toNat*i.size=0
     ·have hn:n.toNat=0:=by
       rcases Nat.mul_eq_zero.1 h0 with e1 | e1
       ·exact e1
       ·omega
      rw [hn]
      have A3:(Array.map (fun (_:Nat)=>(default:Value)) (Array.range 0)) = #[]:=by simp [Array.range]
      simp [Go.newRow,h.next,bB,repeatL,eO,A3]
     ·have A2:((Array.range (n.toNat*i.size)).map fun j=>((z.cells.map (conc c)).toArray)[j%((z.cells.map (conc c)).toArray).size]!)=((repeatL z.cells n.toNat).map (conc c)).toArray:=by
       rw [←q5]; exact qf c z.cells n.toNat (by omega)
      have Gv:(conc c z).cells=(z.cells.map (conc c)).toArray:=fF c z
      simp only [Sem.run_bind,Sem.run_pure,run_askRoom,Result.andThen_ok,eO,h0,bK,z1,Gv,A2,Go.newRow,run_newObj]
      simp [h.next,bB]
    ·simp [wf,h.next,kY]; omega
  ·simp at I
 ·simp at I
theorem IT (h:Rel c σ w)(t:TypeId): gY P (Instr.makeMap t none) c w (.map σ.next) (σ.new (.map [] 0)):=by
 have g:=h.new (.map [] 0) (.map #[] 0) 0 rfl ⟨by simp,by rw [bB,iA]; simp⟩
 refine ⟨_,_,?_,?_,g.1,g.2⟩
 ·simp [Instr.makeMap,conc,h.next,bB]
 ·simp [wf,h.next,kY]
theorem B9 {α β:Type}(g:α→β)(f:α→α)(f':β→β)(I:∀x,g (f x)=f' (g x)): ∀(l:List α) (k:Nat),(setNth l k f).map g=(l.map g).modify k f':=by
 intro l
 induction l with
 | nil=>intro k; simp [setNth]
 | cons x l J =>
  intro k
  cases k with
  | zero=>simp [setNth,I]
  | succ k=>simp only [setNth,cS (vP k),az,tA,bJ,J,List.modify_succ_cons]
theorem B_ {α:Type}{f:α→α}: ∀ {l:List α} {k:Nat} {x:α},x∈setNth l k f→x∈l∨∃y∈l,x=f y:=by
 intro l
 induction l with
 | nil=>intro k x h; simp [setNth] at h
 | cons y l I =>
  intro k x h
  cases k with
  | zero =>
   simp only [setNth,dh,ag,fb] at h
   rcases h with rfl | h
   ·exact .inr ⟨y,by simp,rfl⟩
   ·exact .inl (by simp [h])
  | succ k =>
   simp only [setNth,cS (vP k),az,fb] at h
   rcases h with rfl | h
   ·exact .inl (by simp)
   ·rcases I h with h | ⟨z,J,rfl⟩
    ·exact .inl (by simp [h])
    ·exact .inr ⟨z,by simp [J],rfl⟩
theorem KZ {α:Type}: ∀(l:List α) (k:Nat),kx l k=l.eraseIdx k:=by
 intro l
 induction l with
 | nil=>intro k; simp [kx]
 | cons x l I =>
  intro k
  cases k with
  | zero=>simp [kx]
  | succ k=>simp only [kx,cS (vP k),az,tA,I,List.eraseIdx_cons_succ]
theorem IU {α β:Type}(g:α→β): ∀(l:List α) (k:Nat),(kx l k).map g=(l.map g).eraseIdx k:=by
 intro l
 induction l with
 | nil=>intro k; simp [kx]
 | cons x l I =>
  intro k
  cases k with
  | zero=>simp [kx]
  | succ k=>simp only [kx,cS (vP k),az,tA,bJ,I,List.eraseIdx_cons_succ]
theorem A4 {d:TypeDesc}{a b:V}(h:keyBeq d a b=some true)(J:wf c a)(U:wf c b): conc c a=conc c b∧∀n,Instr.sameBits n (conc c b) (conc c a)=true:=by
 unfold keyBeq at h
 split at h
 ·rename_i j x k y
  cases I:ikBeq j k with
  | false=>simp [I] at h
  | true =>
   have:=oH I
   subst this
   simp only [I,ag,au,nj,beq_iff_eq] at h
   subst h
   exact ⟨rfl,fun n=>by cases n <;> simp [conc,Instr.sameBits]⟩
 ·rename_i x y
  simp only [au,sS,beq_iff_eq] at h
  subst h
  refine ⟨rfl,fun n => ?_⟩
  have:((⟨(x.map UInt8.ofNat).toArray⟩:ByteArray) == ⟨(x.map UInt8.ofNat).toArray⟩)=true:=by
   rw [yt (by simpa [wf] using J) (by simpa [wf] using J),sS]; simp
  cases n <;> simp [conc,Instr.sameBits,this]
 ·simp at h
theorem v8 {t:TypeId}{x k v:V}{iE:H}(h:Rel c σ w)(I:mapUpdateV P σ t x k v=some iE)(hk:wf c k)(hv:wf c v):
  Pw P (Instr.mapUpdate t (conc c x) (conc c k) (conc c v)) c w iE:=by
 unfold mapUpdateV at I
 generalize ht:P.underlying t=dt at I
 split at I
 ·rename_i kt et
  generalize hd:P.underlying kt=dk at I
  split at I
  ·rename_i d id
   split at I
   ·rename_i es clock hg
    obtain ⟨hw,hb⟩:=h.obj id _ hg
    have rZ:=j4 (P:=P) hb (by simp)
    split at I
    ·rename_i b i u U hf
     simp only [au] at I
     subst I
     have UQ:=lp (P:=P) hd hk hf hw w
     obtain ⟨e,g1,_,g3,g4⟩:=(wO hk es 0 _ hf hw).2 (i,u) rfl
     simp only [kr] at g1
     have RE:=hw e (br g1)
     obtain ⟨s1,s2⟩:=A4 g4 hk RE.1
     have hm:=h.ug (es':=setNth es i fun e=>(e.1,v,e.2.2)) (k':=clock) hg (by
      intro y J
      rcases B_ J with J | ⟨z,hz,rfl⟩
      ·exact hw y J
      ·exact ⟨(hw z hz).1,hv⟩)
     refine ⟨_,_,?_,hm.1,hm.2⟩
     simp only [Instr.mapUpdate,Sem.run_bind,run_underlying ht,Result.andThen_ok,conc,rZ]
     rw [jt hd U]
     simp only [Result.andThen_ok,UQ,je,Sem.run_bind]
     have AZ:((es.map (cn c)).toArray[i]?.map (·.key)).getD (conc c k)=conc c e.1:=by simp [g1,cn]
     rw [AZ]
     simp only [Instr.keyThatStays,s2,bP,Sem.run_pure,Result.andThen_ok]
     rw [kZ hb (by simp)]
     congr 3
     rw [B9 (cn c) _ (fun e=>{ e with val:=conc c v }) (by intro y; simp [cn])]
     rw [DH]
     congr 2
     -- the key that stays is the elder one
     apply Ac
     intro j
     simp only [List.getElem?_modify]
     by_cases hj:i=j
     ·subst hj
      simp [g1,cn,s1]
     ·simp [hj]
    ·rename_i b U hf
     simp only [au] at I
     subst I
     have UQ:=lp (P:=P) hd hk hf hw w
     have hm:=h.ug (es':=es++[(k,v,clock)]) (k':=clock+1) hg (by
      intro y J
      simp only [qQ,vL] at J
      rcases J with J | rfl
      ·exact hw y J
      ·exact ⟨hk,hv⟩)
     refine ⟨_,_,?_,hm.1,hm.2⟩
     simp only [Instr.mapUpdate,Sem.run_bind,run_underlying ht,Result.andThen_ok,conc,rZ]
     rw [jt hd U]
     simp only [Result.andThen_ok,UQ,iQ]
     rw [kZ hb (by simp)]
     congr 3
     simp [cn]
    ·simp at I
   ·simp at I
  ·simp at I
 ·simp at I
theorem FM {t:TypeId}{x k v:V}{iE:H}(h:Rel c σ w)(I:mapEntryV P σ t x k=some (v,iE))(hk:wf c k):
  gY P (Instr.mapEntry t (conc c x) (conc c k)) c w v iE:=by
 unfold mapEntryV at I
 generalize ht:P.underlying t=dt at I
 split at I
 ·rename_i kt et
  generalize hd:P.underlying kt=dk at I
  split at I
  ·rename_i d z id hz
   obtain ⟨z1,z2⟩:=fV hz c w
   split at I
   ·rename_i es clock hg
    obtain ⟨hw,hb⟩:=h.obj id _ hg
    have rZ:=j4 (P:=P) hb (by simp)
    split at I
    ·rename_i b i u J hf
     rw [fR] at I
     have U:=lp (P:=P) hd hk hf hw w
     obtain ⟨e,g1,_,g3,g4⟩:=(wO hk es 0 _ hf hw).2 (i,u) rfl
     simp only [kr] at g1
     simp only [g1,au,aP] at I
     obtain ⟨rfl,rfl⟩:=I
     have RE:=hw e (br g1)
     obtain ⟨s1,s2⟩:=A4 g4 hk RE.1
     have hu:wf c u:=by simp only at g3; rw [g3]; exact RE.2
     refine gY.same h ⟨?_,by simp [wf,fS,hu]⟩
     simp only [Instr.mapEntry,Sem.run_bind,run_underlying ht,Result.andThen_ok,conc,rZ]
     rw [jt hd J]
     simp only [Result.andThen_ok,U,je,Sem.run_bind]
     have AZ:((es.map (cn c)).toArray[i]?.map (·.key)).getD (conc c k)=conc c e.1:=by simp [g1,cn]
     rw [AZ]
     simp only [Instr.keyThatStays,s2,bP,Sem.run_pure,Result.andThen_ok]
     rw [kZ hb (by simp)]
     have K0:({ w with heap:=w.heap.setIfInBounds (c.ρ id).1 (.map ((es.map (cn c)).toArray.modify i fun e=>{ e with key:=conc c k }) clock) }:World)=w:=by
      have:(es.map (cn c)).toArray.modify i (fun e=>{ e with key:=conc c k })=(es.map (cn c)).toArray:=by
       rw [DH]
       congr 1
       apply Ac
       intro j
       simp only [List.getElem?_modify]
       by_cases hj:i=j
       ·subst hj; simp [g1,cn,s1]
       ·simp [hj]
      rw [this]
      obtain ⟨bS,xP⟩:=Array.getElem?_eq_some_iff.1 hb
      have:w.heap.setIfInBounds (c.ρ id).1 (.map (es.map (cn c)).toArray clock)=w.heap:=by
       apply qO
       intro j
       rw [mU]
       by_cases hj:(c.ρ id).1=j
       ·subst hj; simp [bS,xP]
       ·simp [hj]
      rw [this]
     rw [K0]
     simp [g1,cn,conc,concL,goInt]
    ·rename_i b J hf
     simp only [au,aP] at I
     obtain ⟨rfl,rfl⟩:=I
     have U:=lp (P:=P) hd hk hf hw w
     have hm:=h.ug (es':=es++[(k,z,clock)]) (k':=clock+1) hg (by
      intro y hy
      simp only [qQ,vL] at hy
      rcases hy with hy | rfl
      ·exact hw y hy
      ·exact ⟨hk,z2⟩)
     refine ⟨_,_,?_,by simp [wf,fS,z2],hm.1,hm.2⟩
     simp only [Instr.mapEntry,Sem.run_bind,run_underlying ht,Result.andThen_ok,conc,rZ]
     rw [jt hd J]
     simp only [Result.andThen_ok,U,iQ,Sem.run_bind,z1]
     rw [kZ hb (by simp)]
     simp [cn,concL,conc,goInt]
    ·simp at I
   ·simp at I
  ·simp at I
 ·simp at I
theorem IV (c:Ctx)(b:Int): ∀(es:List (V×V×Nat)) (i j:Nat),findBorn es b i=some j →
  (es.map (cn c)).findIdx? (fun e=>(e.born:Int) == b)=some (j-i)∧i≤j:=by
 intro es
 induction es with
 | nil=>intro i j h; simp [findBorn] at h
 | cons e es U =>
  intro i j h
  simp only [findBorn,nj] at h
  by_cases I:(e.2.2:Int)=b
  ·have:((e.2.2:Int) == b)=true:=by simpa using I
   rw [this,ag,au] at h
   subst h
   simp [List.findIdx?_cons,cn,I]
  ·have:((e.2.2:Int) == b)=false:=by simpa using I
   rw [this,az] at h
   obtain ⟨h1,h2⟩:=U (i+1) j h
   refine ⟨?_,by omega⟩
   rw [bJ,List.findIdx?_cons,h1]
   have J:(((cn c e).born:Int) == b)=false:=by simpa [cn] using I
   rw [J]
   simp
   omega
theorem Ca {t:TypeId}{x s v:V}{J:H}(h:Rel c σ w)(I:entryStoreV σ x s v=some J)(hv:wf c v):
  Pw P (Instr.entryStore t (conc c x) (conc c s) (conc c v)) c w J:=by
 unfold entryStoreV at I
 split at I
 ·rename_i id k b
  split at I
  ·rename_i es clock hg
   obtain ⟨hw,hb⟩:=h.obj id _ hg
   have U:=j4 (P:=P) hb (by simp)
   cases hf:findBorn es b 0 with
   | none=>simp [hf] at I
   | some i =>
    simp only [hf,au] at I
    subst I
    have YC:=(IV c b es 0 i hf).1
    have hm:=h.ug (es':=setNth es i fun e=>(e.1,v,e.2.2)) (k':=clock) hg (by
     intro y hy
     rcases B_ hy with hy | ⟨z,hz,rfl⟩
     ·exact hw y hy
     ·exact ⟨(hw z hz).1,hv⟩)
    refine ⟨_,_,?_,hm.1,hm.2⟩
    simp only [Instr.entryStore,conc,Sem.run_bind,U,Result.andThen_ok,asInt,asIntOf,Sem.run_pure]
    have hfa:(es.map (cn c)).toArray.findIdx? (fun e=>(e.born:Int) == b)=some i:=by
     simpa using YC
    rw [hfa]
    simp only
    rw [kZ hb (by simp)]
    congr 3
    rw [B9 (cn c) _ (fun e=>{ e with val:=conc c v }) (by intro y; simp [cn])]
    rw [DH]
  ·simp at I
 ·simp at I
theorem IW {t ty:TypeId}{x k:V}{iE:H}(h:Rel c σ w)(I:mZ P σ t x k=some iE)(hk:wf c k)(ts:Array TypeId)(JQ:ts[0]?=some t):
  ∃w' c',(Builtin.delete_ ts ty #[conc c x,conc c k]).run P w=.ok (.tuple #[]) w'∧Rel c' iE w'∧dG c w c' w':=by
 unfold mZ at I
 generalize ht:P.underlying t=dt at I
 split at I
 ·rename_i kt et
  generalize hd:P.underlying kt=dk at I
  split at I
  ·rename_i d id
   split at I
   ·rename_i es clock hg
    obtain ⟨hw,hb⟩:=h.obj id _ hg
    have rZ:=j4 (P:=P) hb (by simp)
    split at I
    ·rename_i b i u J hf
     simp only [au] at I
     subst I
     have U:=lp (P:=P) hd hk hf hw w
     have hm:=h.ug (es':=kx es i) (k':=clock) hg (by
      intro y hy
      rw [KZ] at hy
      exact hw y (List.mem_of_mem_eraseIdx hy))
     refine ⟨_,_,?_,hm.1,hm.2⟩
     simp only [Builtin.delete_,JQ,mV,nJ,kn,Sem.run_bind,run_underlying ht,Result.andThen_ok,conc,rZ]
     rw [jt hd J]
     simp only [Result.andThen_ok,U,je,Sem.run_bind]
     rw [kZ hb (by simp)]
     simp [IU]
    ·rename_i b J hf
     simp only [au] at I
     subst I
     have U:=lp (P:=P) hd hk hf hw w
     have hm:=h.ug (es':=es) (k':=clock) hg hw
     refine ⟨w,c,?_,h,dG.refl c w⟩
     simp only [Builtin.delete_,JQ,mV,nJ,kn,Sem.run_bind,run_underlying ht,Result.andThen_ok,conc,rZ]
     rw [jt hd J]
     simp only [Result.andThen_ok,U,iQ,Sem.run_bind]
     rw [kZ hb (by simp)]
     obtain ⟨bS,xP⟩:=Array.getElem?_eq_some_iff.1 hb
     have:w.heap.setIfInBounds (c.ρ id).1 (.map (es.map (cn c)).toArray clock)=w.heap:=by
      apply qO
      intro j
      rw [mU]
      by_cases hj:(c.ρ id).1=j
      ·subst hj; simp [bS,xP]
      ·simp [hj]
     simp [this]
    ·simp at I
   ·simp at I
  ·simp at I
 ·simp at I
end
end Go.Proofs.YtconhghphklfjaaGreat.Am
